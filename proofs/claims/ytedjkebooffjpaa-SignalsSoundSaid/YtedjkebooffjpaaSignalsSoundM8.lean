/- Parts of the proof:ItC,ItA,It2m,ItD,ItE,ItF,ItG,It4m,ItH,It3m,ItI,SgN,Sg7m,SgO,Sg8m,SgQ,Sg9m,SgR,Sgam,SgS,SgT,Sgbm,SgU,Sgcm,SgV,RqD,SgW,Sgdm,SgX. -/
import Derived.KernelRfl
import Derived.Test.YtedjkebooffjpaaProg
import Derived.Test.YtedjkebooffjpaaSignalsSoundM7
noncomputable section
set_option linter.unusedVariables false
set_option linter.unusedSimpArgs false
open Go Go.AX Go.Proofs
set_option maxRecDepth 100000
set_option linter.unusedVariables false
set_option linter.unusedSimpArgs false
namespace Go.Proofs.Ytedjkebooffjpaa
def Chn(n:NetD):Int→List Int→Prop
 | _,[]=>True
 | c,x::l=>folB n c x=true∧Chn n x l
def lstC:Int→List Int→Int
 | c,[]=>c
 | _,x::l=>lstC x l
theorem Chn.app{n:NetD}:∀{l m:List Int} {c:Int},Chn n c l→Chn n (lstC c l) m→Chn n c (l++m)
 | [],_,_,_,h=>h
 | _::_,_,_,h,k=>⟨h.1,Chn.app h.2 k⟩
theorem Chn.of{n:NetD}:∀{l:List Int} {c:Int},(∀k,k<l.length→folB n ((c::l).getD k 0) (l.getD k 0)=true)→Chn n c l
 | [],_,_=>trivial
 | x::l,c,h=>⟨h 0 (by simp),Chn.of fun k hk=>h (k+1) (by simpa using hk)⟩
theorem Chn.get{n:NetD}:∀{l:List Int} {c:Int},Chn n c l→∀k,k<l.length→folB n ((c::l).getD k 0) (l.getD k 0)=true
 | [],_,_,k,hk=>absurd hk (Nat.not_lt_zero _)
 | x::l,c,h,0,_=>h.1
 | x::l,c,h,k+1,hk=>Chn.get h.2 k (by simpa using hk)
end Go.Proofs.Ytedjkebooffjpaa
set_option maxHeartbeats 4000000
namespace Go.Proofs.Ytedjkebooffjpaa
def bmV(f:Nat→Bool)(c i:Nat):List Bool:=(List.range i).map f++List.replicate (c-i) false
theorem bmV_len{f:Nat→Bool}{c i:Nat}(h:i≤c):(bmV f c i).length=c:=by unfold bmV;simp;omega
theorem bmV_set{f:Nat→Bool}{c i:Nat}(h:i<c):(bmV f c i).set (0+i) (f i)=bmV f c (i+1):=by
 obtain⟨d,hd⟩:∃d,c-i=d+1:=⟨c-i-1,by omega⟩
 have hd2:c-(i+1)=d:=by omega
 unfold bmV
 rw[hd,hd2,Nat.zero_add,List.replicate_succ,List.set_append_right _ _ (by simp)]
 simp only[List.length_map,List.length_range,Nat.sub_self,List.set_cons_zero]
 rw[List.range_succ,List.map_append,List.append_assoc];rfl
theorem bmV_0(f:Nat→Bool)(c:Nat):bmV f c 0=List.replicate c false:=by unfold bmV;simp
theorem bmV_c(f:Nat→Bool)(c:Nat):bmV f c c=(List.range c).map f:=by unfold bmV;simp
theorem fold_range{α:Type}(f:α→Nat→α)(a:α)(k:Nat):(List.range (k+1)).foldl f a=f ((List.range k).foldl f a) k:=by rw[List.range_succ,List.foldl_append];rfl
theorem mk0_bm(nb:Nat)(l:List Bool):bmV (fun b=> !(l.getD b true)) nb nb=mk0 nb l:=by rw[bmV_c];rfl
theorem spF_c(n:NetD)(cl:List Bool)(bw pe:List Int)(l:List Bool)(hv:ValidN n)(hrw:Rows n.nx)(hl:n.bs.length≤l.length)(hcl:n.bs.length≤cl.length):CT Try.prog 81 [some (Blk.mk [netA n] 8 true true none)] [netA n,sgA ⟨cl,bw,pe⟩,.lst (boL l),.fn 82 [.ptr 0 0 0]] [some (Blk.mk [netA n] 8 true true none),some (Blk.mk (boL (prI n.bs.length (okC cl) (lnkF n.nx) (mk0 n.bs.length l) n.bs.length)) 1 true true none)] (.sl 1 0 n.bs.length):=by
 refine spF_ct n ⟨cl,bw,pe⟩ l ([_,_],_) ?_
 have h24:=hv.nb24
 have hb:(List.map bA n.bs).length=n.bs.length:=List.length_map ..
 unfold spFEn
 rw[hb,gu_t (by simp only[iN];omega),gu_t (by simp only[iN];omega),←bmV_0 (fun b=> !(l.getD b true))]
 refine loop_up (fun i=>spFPc.l0 (bmV (fun b=> !(l.getD b true)) n.bs.length i) (i:Int)) n.bs.length (fun i hi hx=>?_) ?_
 ·refine .to (show spFS0 n ⟨cl,bw,pe⟩ l _ _=_ from ?_) hx
  have hlen:=bmV_len (f:=fun b=> !(l.getD b true)) (Nat.le_of_lt hi)
  unfold spFS0
  rw[hb,br_t (dec_t (by simp only[iN];omega)),gu_t (by omega),elG true (show i<l.length by omega),gu_t (by simp only[iN,hlen];omega),gu_t (show Nat.le _ _ from(by rw[List.length_map,hlen];show 0+(i:Int).toNat+1≤_;omega)),Int.toNat_natCast,bmV_set (f:=fun b=> !(l.getD b true)) hi,zW i (by omega)]
 ·have hm0:=mk0_len n.bs.length l
  refine .to (show spFS0 n ⟨cl,bw,pe⟩ l _ _=some (.inl (.l1 (prI n.bs.length (okC cl) (lnkF n.nx) (mk0 n.bs.length l) 0) n.bs.length ((0:Nat):Int))) from ?_) ?_
  ·unfold spFS0
   rw[hb,br_f (dec_f (by simp only[iN];omega)),mk0_bm,hm0];rfl
  refine loop_up (fun i=>spFPc.l1 (prI n.bs.length (okC cl) (lnkF n.nx) (mk0 n.bs.length l) i) n.bs.length (i:Int)) n.bs.length (fun i hi hx=>?_) ?_
  ·have hml:=(prI_spr (n:=n.bs.length) (ok:=okC cl) (L:=lnkF n.nx) (mk0 n.bs.length l) i).len
   rw[hm0] at hml
   have hnx:MReach (spFStep n ⟨cl,bw,pe⟩ l) (some (.inl (.l1 (prR n.bs.length (okC cl) (lnkF n.nx) (prI n.bs.length (okC cl) (lnkF n.nx) (mk0 n.bs.length l) i)) n.bs.length ((i+1:Nat):Int)))) _:=hx
   generalize prI n.bs.length (okC cl) (lnkF n.nx) (mk0 n.bs.length l) i=mk at hml hnx ⊢
   refine .to (show spFS1 n ⟨cl,bw,pe⟩ l mk n.bs.length (i:Int)=some (.inl (.l2 ((List.range 0).foldl (prB n.bs.length (okC cl) (lnkF n.nx)) mk) n.bs.length (i:Int) n.bs.length ((0:Nat):Int))) from ?_) ?_
   ·unfold spFS1
    rw[br_t (dec_t (by simp only[iN];omega)),hml];rfl
   refine loop_up (fun b=>spFPc.l2 ((List.range b).foldl (prB n.bs.length (okC cl) (lnkF n.nx)) mk) n.bs.length (i:Int) n.bs.length (b:Int)) n.bs.length (fun b hbl hy=>?_) ?_
   ·have hfl:=(spr_fold (n:=n.bs.length) (ok:=okC cl) (L:=lnkF n.nx) (f:=prB n.bs.length (okC cl) (lnkF n.nx)) (fun mk b hb=>prB_spr hb mk) (List.range b) mk fun x hx=>by have:=List.mem_range.1 hx;omega).len
    rw[hml] at hfl
    rw[fold_range] at hy
    generalize (List.range b).foldl (prB n.bs.length (okC cl) (lnkF n.nx)) mk=mk2 at hfl hy ⊢
    refine .to (show spFS2 n ⟨cl,bw,pe⟩ l mk2 n.bs.length (i:Int) n.bs.length (b:Int)=some (.inl (.l3 ((List.range 0).foldl (pr1 (okC cl) (lnkF n.nx) b) mk2) (b:Int) n.bs.length (i:Int) n.bs.length n.bs.length ((0:Nat):Int))) from ?_) ?_
    ·unfold spFS2
     rw[br_t (dec_t (by simp only[iN];omega)),hfl];rfl
    refine loop_up (fun c=>spFPc.l3 ((List.range c).foldl (pr1 (okC cl) (lnkF n.nx) b) mk2) (b:Int) n.bs.length (i:Int) n.bs.length n.bs.length (c:Int)) n.bs.length (fun c hcl2 hz=>?_) ?_
    ·have hgl:=(spr_fold (n:=n.bs.length) (ok:=okC cl) (L:=lnkF n.nx) (f:=pr1 (okC cl) (lnkF n.nx) b) (fun mk c hc=>pr1_spr hbl hc mk) (List.range c) mk2 fun x hx=>by have:=List.mem_range.1 hx;omega).len
     rw[hfl] at hgl
     rw[fold_range] at hz
     generalize (List.range c).foldl (pr1 (okC cl) (lnkF n.nx) b) mk2=mk3 at hgl hz ⊢
     refine .to (show spFS3 n ⟨cl,bw,pe⟩ l mk3 (b:Int) n.bs.length (i:Int) n.bs.length n.bs.length (c:Int)=_ from ?_) hz
     unfold spFS3 pr1 okC lnkF
     rw[br_t (dec_t (by simp only[iN];omega)),gu_t (by omega),gu_t (by simp only[iN,hgl];omega),Nat.zero_add,elG false (show c<mk3.length by omega),←has_con]
     cases h1:mk3.getD c false with
     | false=>rw[br_f rfl,zW c (by omega),if_neg (by simp)]
     | true=>
      rw[br_t rfl,gu_t (by omega),elG true (show b<cl.length by omega)]
      cases h2:cl.getD b true with
      | true=>rw[br_f (by rfl),zW c (by omega),if_neg (by simp)]
      | false=>
       rw[br_t (by rfl),gu_t hv,gu_t hrw,gu_t ⟨by omega,by simp only[iN];omega⟩,Int.toNat_natCast]
       cases h3:hasZ (n.nx.getD b []) (c:Int) with
       | false=>rw[br_f rfl,zW c (by omega),if_neg (by simp)]
       | true=>rw[br_t rfl,gu_t (by simp only[iN,hgl];omega),gu_t (show Nat.le _ _ from(by rw[List.length_map,hgl];exact Nat.succ_le_of_lt (Nat.lt_of_le_of_lt (Nat.le_of_eq (by simp)) hbl))),zW c (by omega),if_pos (by simp),Nat.zero_add]<;>rw[Int.toNat_natCast]
    ·refine .to (show spFS3 n ⟨cl,bw,pe⟩ l _ (b:Int) n.bs.length (i:Int) n.bs.length n.bs.length (n.bs.length:Int)=_ from ?_) hy
     unfold spFS3
     rw[br_f (dec_f (by simp only[iN];omega)),zW b (by omega)];rfl
   ·refine .to (show spFS2 n ⟨cl,bw,pe⟩ l _ n.bs.length (i:Int) n.bs.length (n.bs.length:Int)=_ from ?_) hnx
    unfold spFS2
    rw[br_f (dec_f (by simp only[iN];omega)),zW i (by omega)];rfl
  ·have hml:=(prI_spr (n:=n.bs.length) (ok:=okC cl) (L:=lnkF n.nx) (mk0 n.bs.length l) n.bs.length).len
   rw[hm0] at hml
   refine .to (show spFS1 n ⟨cl,bw,pe⟩ l _ n.bs.length (n.bs.length:Int)=_ from ?_) (.ret _)
   unfold spFS1
   rw[br_f (dec_f (by simp only[iN];omega)),hml];rfl
theorem spB_c(n:NetD)(cl:List Bool)(bw pe:List Int)(l:List Bool)(hv:ValidN n)(hrw:Rows n.nx)(hl:n.bs.length≤l.length)(hcl:n.bs.length≤cl.length):CT Try.prog 81 [some (Blk.mk [netA n] 8 true true none)] [netA n,sgA ⟨cl,bw,pe⟩,.lst (boL l),.fn 83 [.ptr 0 0 0]] [some (Blk.mk [netA n] 8 true true none),some (Blk.mk (boL (prI n.bs.length (okC cl) (lnkB n.nx) (mk0 n.bs.length l) n.bs.length)) 1 true true none)] (.sl 1 0 n.bs.length):=by
 refine spB_ct n ⟨cl,bw,pe⟩ l ([_,_],_) ?_
 have h24:=hv.nb24
 have hb:(List.map bA n.bs).length=n.bs.length:=List.length_map ..
 unfold spBEn
 rw[hb,gu_t (by simp only[iN];omega),gu_t (by simp only[iN];omega),←bmV_0 (fun b=> !(l.getD b true))]
 refine loop_up (fun i=>spBPc.l0 (bmV (fun b=> !(l.getD b true)) n.bs.length i) (i:Int)) n.bs.length (fun i hi hx=>?_) ?_
 ·refine .to (show spBS0 n ⟨cl,bw,pe⟩ l _ _=_ from ?_) hx
  have hlen:=bmV_len (f:=fun b=> !(l.getD b true)) (Nat.le_of_lt hi)
  unfold spBS0
  rw[hb,br_t (dec_t (by simp only[iN];omega)),gu_t (by omega),elG true (show i<l.length by omega),gu_t (by simp only[iN,hlen];omega),gu_t (show Nat.le _ _ from(by rw[List.length_map,hlen];show 0+(i:Int).toNat+1≤_;omega)),Int.toNat_natCast,bmV_set (f:=fun b=> !(l.getD b true)) hi,zW i (by omega)]
 ·have hm0:=mk0_len n.bs.length l
  refine .to (show spBS0 n ⟨cl,bw,pe⟩ l _ _=some (.inl (.l1 (prI n.bs.length (okC cl) (lnkB n.nx) (mk0 n.bs.length l) 0) n.bs.length ((0:Nat):Int))) from ?_) ?_
  ·unfold spBS0
   rw[hb,br_f (dec_f (by simp only[iN];omega)),mk0_bm,hm0];rfl
  refine loop_up (fun i=>spBPc.l1 (prI n.bs.length (okC cl) (lnkB n.nx) (mk0 n.bs.length l) i) n.bs.length (i:Int)) n.bs.length (fun i hi hx=>?_) ?_
  ·have hml:=(prI_spr (n:=n.bs.length) (ok:=okC cl) (L:=lnkB n.nx) (mk0 n.bs.length l) i).len
   rw[hm0] at hml
   have hnx:MReach (spBStep n ⟨cl,bw,pe⟩ l) (some (.inl (.l1 (prR n.bs.length (okC cl) (lnkB n.nx) (prI n.bs.length (okC cl) (lnkB n.nx) (mk0 n.bs.length l) i)) n.bs.length ((i+1:Nat):Int)))) _:=hx
   generalize prI n.bs.length (okC cl) (lnkB n.nx) (mk0 n.bs.length l) i=mk at hml hnx ⊢
   refine .to (show spBS1 n ⟨cl,bw,pe⟩ l mk n.bs.length (i:Int)=some (.inl (.l2 ((List.range 0).foldl (prB n.bs.length (okC cl) (lnkB n.nx)) mk) n.bs.length (i:Int) n.bs.length ((0:Nat):Int))) from ?_) ?_
   ·unfold spBS1
    rw[br_t (dec_t (by simp only[iN];omega)),hml];rfl
   refine loop_up (fun b=>spBPc.l2 ((List.range b).foldl (prB n.bs.length (okC cl) (lnkB n.nx)) mk) n.bs.length (i:Int) n.bs.length (b:Int)) n.bs.length (fun b hbl hy=>?_) ?_
   ·have hfl:=(spr_fold (n:=n.bs.length) (ok:=okC cl) (L:=lnkB n.nx) (f:=prB n.bs.length (okC cl) (lnkB n.nx)) (fun mk b hb=>prB_spr hb mk) (List.range b) mk fun x hx=>by have:=List.mem_range.1 hx;omega).len
    rw[hml] at hfl
    rw[fold_range] at hy
    generalize (List.range b).foldl (prB n.bs.length (okC cl) (lnkB n.nx)) mk=mk2 at hfl hy ⊢
    refine .to (show spBS2 n ⟨cl,bw,pe⟩ l mk2 n.bs.length (i:Int) n.bs.length (b:Int)=some (.inl (.l3 ((List.range 0).foldl (pr1 (okC cl) (lnkB n.nx) b) mk2) (b:Int) n.bs.length (i:Int) n.bs.length n.bs.length ((0:Nat):Int))) from ?_) ?_
    ·unfold spBS2
     rw[br_t (dec_t (by simp only[iN];omega)),hfl];rfl
    refine loop_up (fun c=>spBPc.l3 ((List.range c).foldl (pr1 (okC cl) (lnkB n.nx) b) mk2) (b:Int) n.bs.length (i:Int) n.bs.length n.bs.length (c:Int)) n.bs.length (fun c hcl2 hz=>?_) ?_
    ·have hgl:=(spr_fold (n:=n.bs.length) (ok:=okC cl) (L:=lnkB n.nx) (f:=pr1 (okC cl) (lnkB n.nx) b) (fun mk c hc=>pr1_spr hbl hc mk) (List.range c) mk2 fun x hx=>by have:=List.mem_range.1 hx;omega).len
     rw[hfl] at hgl
     rw[fold_range] at hz
     generalize (List.range c).foldl (pr1 (okC cl) (lnkB n.nx) b) mk2=mk3 at hgl hz ⊢
     refine .to (show spBS3 n ⟨cl,bw,pe⟩ l mk3 (b:Int) n.bs.length (i:Int) n.bs.length n.bs.length (c:Int)=_ from ?_) hz
     unfold spBS3 pr1 okC lnkB
     rw[br_t (dec_t (by simp only[iN];omega)),gu_t (by omega),gu_t (by simp only[iN,hgl];omega),Nat.zero_add,elG false (show c<mk3.length by omega),←has_con]
     cases h1:mk3.getD c false with
     | false=>rw[br_f rfl,zW c (by omega),if_neg (by simp)]
     | true=>
      rw[br_t rfl,gu_t (by omega),elG true (show b<cl.length by omega)]
      cases h2:cl.getD b true with
      | true=>rw[br_f (by rfl),zW c (by omega),if_neg (by simp)]
      | false=>
       rw[br_t (by rfl),gu_t hv,gu_t hrw,gu_t ⟨by omega,by simp only[iN];omega⟩,Int.toNat_natCast]
       cases h3:hasZ (n.nx.getD c []) (b:Int) with
       | false=>rw[br_f rfl,zW c (by omega),if_neg (by simp)]
       | true=>rw[br_t rfl,gu_t (by simp only[iN,hgl];omega),gu_t (show Nat.le _ _ from(by rw[List.length_map,hgl];exact Nat.succ_le_of_lt (Nat.lt_of_le_of_lt (Nat.le_of_eq (by simp)) hbl))),zW c (by omega),if_pos (by simp),Nat.zero_add]<;>rw[Int.toNat_natCast]
    ·refine .to (show spBS3 n ⟨cl,bw,pe⟩ l _ (b:Int) n.bs.length (i:Int) n.bs.length n.bs.length (n.bs.length:Int)=_ from ?_) hy
     unfold spBS3
     rw[br_f (dec_f (by simp only[iN];omega)),zW b (by omega)];rfl
   ·refine .to (show spBS2 n ⟨cl,bw,pe⟩ l _ n.bs.length (i:Int) n.bs.length (n.bs.length:Int)=_ from ?_) hnx
    unfold spBS2
    rw[br_f (dec_f (by simp only[iN];omega)),zW i (by omega)];rfl
  ·have hml:=(prI_spr (n:=n.bs.length) (ok:=okC cl) (L:=lnkB n.nx) (mk0 n.bs.length l) n.bs.length).len
   rw[hm0] at hml
   refine .to (show spBS1 n ⟨cl,bw,pe⟩ l _ n.bs.length (n.bs.length:Int)=_ from ?_) (.ret _)
   unfold spBS1
   rw[br_f (dec_f (by simp only[iN];omega)),hml];rfl
inductive souPc where
 | l0 (v0:Int) (v1:List Bool)
def souSt(n:NetD)(cl:List Bool)(bw pe:List Int):souPc→St
 | .l0 v0 v1=>St.mk 50 [(8,AV.sl 0 0 n.bs.length),(9,AV.sl 1 0 n.bs.length),(31,iv (iN n.bs.length)),(32,iv v0)] [some (Blk.mk (List.map AV.bool v1) 1 true true none),some (Blk.mk (boL (prI n.bs.length (okC cl) (lnkB n.nx) (mk0 n.bs.length (shO n (SigD.mk cl bw pe))) n.bs.length)) 1 true true none)]
def souHd:souPc→Nat
 | .l0 _ _=>0
def souEn(n:NetD)(cl:List Bool)(bw pe:List Int):Option (souPc⊕Ret):=
 gu (Rows n.nx) <|
 br (shE n (SigD.mk cl bw pe) != 0)
 (some (.inr ([],AV.tup [AV.nils,AV.int IntKind.i64 (shE n (SigD.mk cl bw pe))])))
 (gu (ValidN n) <|
  gu (n.bs.length≤(shO n (SigD.mk cl bw pe)).length) <|
  gu (n.bs.length≤cl.length) <|
  some (.inl (.l0 ((0:Int)) (prI n.bs.length (okC cl) (lnkF n.nx) (mk0 n.bs.length (shO n (SigD.mk cl bw pe))) n.bs.length))))
def souS0(n:NetD)(cl:List Bool)(bw pe:List Int)(v0:Int)(v1:List Bool):Option (souPc⊕Ret):=
 br (decide (v0<iN n.bs.length))
 (gu (0≤v0) <|
  gu (v0<iN n.bs.length) <|
  el v1 (0+v0.toNat) fun(x40:Bool)=>
  br x40
  (el (prI n.bs.length (okC cl) (lnkB n.nx) (mk0 n.bs.length (shO n (SigD.mk cl bw pe))) n.bs.length) (0+v0.toNat) fun(x45:Bool)=>
   gu ((0+v0.toNat).succ.le (List.map AV.bool v1).length) <|
   some (.inl (.l0 (IntKind.i64.wrap (v0+1)) (v1.set (0+v0.toNat) x45))))
  (gu ((0+v0.toNat).succ.le (List.map AV.bool v1).length) <|
   some (.inl (.l0 (IntKind.i64.wrap (v0+1)) (v1.set (0+v0.toNat) false)))))
 (gu (n.bs.length=(List.map AV.bool v1).length) <|
  some (.inr ([],AV.tup [AV.lst (List.map AV.bool v1),AV.int IntKind.i64 0])))
def souStep(n:NetD)(cl:List Bool)(bw pe:List Int):souPc→Option (souPc⊕Ret)
 | .l0 v0 v1=>souS0 n cl bw pe v0 v1
theorem souEn_ok(n:NetD)(cl:List Bool)(bw pe:List Int)(o:souPc⊕Ret)(h:souEn n cl bw pe=some o):Arr Try.prog Try.f35 0 (souSt n cl bw pe) souHd (zB Try.f35) [] {n:=Try.f35.ntmps,fr:=enumF 0 ([netA n,sgA ⟨cl,bw,pe⟩]),hp:=([])} o:=
 Scr.ok h mix (
 .rn 0 [] [] [] [] (al (u2 (u2 t3))) <|
 .gu fun a0=>
 have c0:=ssh_c (cl) (bw) (pe) a0;
 .rn 1 [] [] [(14,hK c0 [] [])] [] (aj (u2 (u2 (aj (k2 (aj t9 (aj t4 (al (c0))))) (u2 (u2 (u2 (u2 s2))))))) (al (u2 s2))) <|
 .br (fun a1=>
 .rt [37] [] [] [] [] [] (aj (aj a1 (al (u2 (ak s2)))) (al t3)))
 (fun a1=>
 .gu fun a2=>
 .gu fun a3=>
 .gu fun a4=>
 have c1:=spF_c n (cl) (bw) (pe) (shO n (SigD.mk cl bw pe)) a2 a0 a3 a4;
 have c2:=spB_c n (cl) (bw) (pe) (shO n (SigD.mk cl bw pe)) a2 a0 a3 a4;
 .lp [36] [] [(24,hK c1 [0] []),(29,hK c2 [0] [])] [] [] [2,3] [8,9,31,32] (aj (aj a1 (aj (u2 (u2 (u2 (u2 (aj (ak (k3 (aj t9 (aj t4 (ak (u2 (ak (al (c1))))))))) s2))))) (aj (u2 (u2 (u2 (u2 (aj (ak (k3 (aj t9 (aj t4 (ak (u2 (ak (al (c2))))))))) s2))))) (al (u2 (u2 t2)))))) t7))) (by kernel_rfl)
theorem souS0_ok(n:NetD)(cl:List Bool)(bw pe:List Int)(v0:Int)(v1:List Bool)(o:souPc⊕Ret)(h:souS0 n cl bw pe v0 v1=some o):Arr Try.prog Try.f35 0 (souSt n cl bw pe) souHd (headC Try.f35 0) (.rnd (headC Try.f35 0)::headK Try.f35 0) (souSt n cl bw pe (.l0 v0 v1)) o:=
 Scr.ok h mix (
 .rn 0 [] [] [] [] (al (al t3)) <|
 .br (fun a0=>
 .rn 0 [67] [] [] [] (aj a0 (al (u2 s2))) <|
 .gu fun a1=>
 .gu fun a2=>
 .el fun x40 a3=>
 .br (fun a4=>
  .el fun x45 a5=>
  .gu fun a6=>
  .lq [83] [(40,AV.bool x40),(45,AV.bool x45)] [] [] [] [0,1] [8,9,31,32] (up [] [(0,(List.map AV.bool v1).set (0+v0.toNat) (AV.bool x45))] (souSt n cl bw pe (.l0 (IntKind.i64.wrap (v0+1)) (v1.set (0+v0.toNat) x45)))) (aj (aj (u2 (u2 (u2 (u2 (aj (k2 (aj a1 a2)) (aj (ak (getMap (f:=AV.bool) a3)) (u2 (ag a4 (ag a4 (aj (aj a4 (k2 (aj a1 a2))) (aj (aj a4 (ak (getMap (f:=AV.bool) a5))) (ag a4 (aj (k2 (aj a1 a2)) (al (k2 a6))))))))))))))) (al (u2 s2))) t7) (by simp[up,upF,upV,upH,upB,souSt,gL,boL,lI,sA,bA]))
 (fun a4=>
  .gu fun a5=>
  .lq [82] [(40,AV.bool x40)] [] [] [] [0,1] [8,9,31,32] (up [] [(0,(List.map AV.bool v1).set (0+v0.toNat) (AV.bool false))] (souSt n cl bw pe (.l0 (IntKind.i64.wrap (v0+1)) (v1.set (0+v0.toNat) false)))) (aj (aj (u2 (u2 (u2 (u2 (aj (k2 (aj a1 a2)) (aj (ak (getMap (f:=AV.bool) a3)) (u2 (aj a4 (aj a4 (aj a4 (aj a4 (ag a4 (aj (k2 (aj a1 a2)) (al (k2 a5))))))))))))))) (al (u2 s2))) t7) (by simp[up,upF,upV,upH,upB,souSt,gL,boL,lI,sA,bA])))
 (fun a0=>
 .rn 0 [66] [] [] [] (aj a0 (al (u2 (u2 t2)))) <|
 .gu fun a1=>
 .rt [] [] [] [] [] [0] (ak (al (aj a1 t2))))) (by kernel_rfl)
theorem sou_ct(n:NetD)(cl:List Bool)(bw pe:List Int)(r:Ret)(h:MReach (souStep n cl bw pe) (souEn n cl bw pe) r):CT Try.prog 35 ([]) ([netA n,sgA ⟨cl,bw,pe⟩]) r.1 r.2:=
 CT.mach (fn:=Try.f35) (c:=zB Try.f35) (S:=souSt n cl bw pe) (hd:=souHd) Try.func35 (by kernel_rfl) (Nat.le_of_ble_eq_true rfl)
  (fun s o ho=>match s,ho with
   | .l0 v0 v1,ho=>souS0_ok n cl bw pe v0 v1 o ho
  )
  (fun o ho=>souEn_ok n cl bw pe o ho) h
def mxL(A:List Bool)(f:Nat→Bool)(i:Nat):List Bool:=(List.range A.length).map fun j=>if j<i then f j else A.getD j false
theorem mxL_len{A:List Bool}{f:Nat→Bool}{i:Nat}:(mxL A f i).length=A.length:=by unfold mxL;simp
theorem mxL_get?{A:List Bool}{f:Nat→Bool}{i j:Nat}(h:j<A.length):(mxL A f i)[j]?=some (if j<i then f j else A.getD j false):=by
 unfold mxL;rw[List.getElem?_map,List.getElem?_range h];rfl
theorem mxL_0{A:List Bool}{f:Nat→Bool}:mxL A f 0=A:=by
 refine List.ext_getElem? fun j=>?_
 by_cases h:j<A.length
 ·rw[mxL_get? h,if_neg (by omega),getE false h]
 ·rw[List.getElem?_eq_none (by rw[mxL_len];omega),List.getElem?_eq_none (by omega)]
theorem mxL_set{A:List Bool}{f:Nat→Bool}{i:Nat}(h:i<A.length):(mxL A f i).set (0+i) (f i)=mxL A f (i+1):=by
 rw[Nat.zero_add]
 refine List.ext_getElem? fun j=>?_
 rw[List.getElem?_set,mxL_len]
 by_cases hj:j<A.length
 ·rw[mxL_get? hj,mxL_get? hj]
  by_cases e:i=j
  ·subst e;rw[if_pos rfl,if_pos h,if_pos (by omega)]
  ·rw[if_neg e]
   by_cases h2:j<i
   ·rw[if_pos h2,if_pos (by omega)]
   ·rw[if_neg h2,if_neg (by omega)]
 ·rw[if_neg (by omega),List.getElem?_eq_none (by rw[mxL_len];omega),List.getElem?_eq_none (by rw[mxL_len];omega)]
def soO(n:NetD)(s:SigD):List Bool:=if sigB n s=true then soL n s else []
theorem so_c{n:NetD}(cl:List Bool)(bw pe:List Int)(hrw:Rows n.nx):CT Try.prog 35 [] [netA n,sgA ⟨cl,bw,pe⟩] [] (.tup [.lst (boL (soO n ⟨cl,bw,pe⟩)),.int .i64 (shE n ⟨cl,bw,pe⟩)]):=by
 have k:=sou_ct n cl bw pe
 unfold souEn at k
 rw[gu_t hrw] at k
 cases h:sigB n ⟨cl,bw,pe⟩ with
 | false=>
  have e1:soO n ⟨cl,bw,pe⟩=[]:=by unfold soO;rw[h];rfl
  have e2:shE n ⟨cl,bw,pe⟩=20:=by unfold shE;rw[h];rfl
  rw[e1,e2]
  rw[e2] at k
  exact CT.w2 (k ([],_) (.val (by rw[br_t (by rfl)])))
 | true=>
  obtain⟨hv,hS,l1,l2,l3,l4,l5⟩:=sig_len h
  have e1:soO n ⟨cl,bw,pe⟩=soL n ⟨cl,bw,pe⟩:=by unfold soO;rw[h];rfl
  have e2:shE n ⟨cl,bw,pe⟩=0:=by unfold shE;rw[h];rfl
  have e3:shO n ⟨cl,bw,pe⟩=shtS ⟨cl,bw,pe⟩:=by unfold shO;rw[h];rfl
  have hsl:(shtS ⟨cl,bw,pe⟩).length=cl.length:=shtS_len _
  have l4':n.bs.length≤cl.length:=l4
  have h24:=hv.nb24
  rw[e1,e2]
  rw[e2,e3,br_f (by rfl),gu_t hv,gu_t (by rw[hsl];exact l4),gu_t l4] at k
  have hA:=soTL_len n ⟨cl,bw,pe⟩
  have hB:=soFL_len n ⟨cl,bw,pe⟩
  have gA:=soTL_get hv hS
  have gB:=soFL_get hv hS
  have eB:prI n.bs.length (okC cl) (lnkB n.nx) (mk0 n.bs.length (shtS ⟨cl,bw,pe⟩)) n.bs.length=soFL n ⟨cl,bw,pe⟩:=rfl
  have eA:prI n.bs.length (okC cl) (lnkF n.nx) (mk0 n.bs.length (shtS ⟨cl,bw,pe⟩)) n.bs.length=soTL n ⟨cl,bw,pe⟩:=rfl
  rw[eA] at k
  refine k ([],_) ?_
  rw[show soTL n ⟨cl,bw,pe⟩=mxL (soTL n ⟨cl,bw,pe⟩) (soB n ⟨cl,bw,pe⟩) 0 from mxL_0.symm]
  refine loop_up (fun i=>souPc.l0 (i:Int) (mxL (soTL n ⟨cl,bw,pe⟩) (soB n ⟨cl,bw,pe⟩) i)) n.bs.length (fun i hi hx=>?_) ?_
  ·refine .to (show souS0 n cl bw pe _ _=_ from ?_) hx
   unfold souS0
   rw[e3,eB,br_t (dec_t (by simp only[iN];omega)),gu_t (by omega),gu_t (by simp only[iN];omega),Int.toNat_natCast,Nat.zero_add,el_t (show(mxL (soTL n ⟨cl,bw,pe⟩) (soB n ⟨cl,bw,pe⟩) i)[i]?=some (soT n ⟨cl,bw,pe⟩ i) from by rw[mxL_get? (by omega),if_neg (by omega),gA])]
   have hst:=mxL_set (A:=soTL n ⟨cl,bw,pe⟩) (f:=soB n ⟨cl,bw,pe⟩) (show i<_ by rw[hA];exact hi)
   rw[Nat.zero_add] at hst
   have hle:(i:Nat).succ.le (List.map AV.bool (mxL (soTL n ⟨cl,bw,pe⟩) (soB n ⟨cl,bw,pe⟩) i)).length:=by rw[List.length_map,mxL_len,hA];exact hi
   rw[←hst]
   cases ht:soT n ⟨cl,bw,pe⟩ i with
   | true=>
    rw[br_t rfl,el_t (getE false (show i<(soFL n ⟨cl,bw,pe⟩).length by omega)),gB,gu_t hle,zW i (by omega),show soB n ⟨cl,bw,pe⟩ i=soF n ⟨cl,bw,pe⟩ i by unfold soB;rw[ht];rfl]
   | false=>
    rw[br_f rfl,gu_t hle,zW i (by omega),show soB n ⟨cl,bw,pe⟩ i=false by unfold soB;rw[ht];rfl]
  ·refine .to (show souS0 n cl bw pe _ _=_ from ?_) (.ret _)
   have hfin:mxL (soTL n ⟨cl,bw,pe⟩) (soB n ⟨cl,bw,pe⟩) n.bs.length=soL n ⟨cl,bw,pe⟩:=by
    unfold mxL soL
    rw[hA]
    exact List.map_congr_left fun j hj=>if_pos (List.mem_range.1 hj)
   rw[hfin]
   unfold souS0
   rw[br_f (dec_f (by simp only[iN];omega)),gu_t (by rw[List.length_map,soL_len])]
   rfl
inductive ixrPc where
 | l0 (v0:Int)
def ixrSt(l:List (List Int))(c:Int):ixrPc→St
 | .l0 v0=>St.mk 19 [(0,AV.lst (gL l)),(1,AV.fn 53 [AV.ptr 0 0 0]),(7,iv (iN (gL l).length)),(8,iv v0)] [some (Blk.mk [iv c] 1 true true none)]
def ixrHd:ixrPc→Nat
 | .l0 _=>0
def ixrEn(l:List (List Int))(c:Int):Option (ixrPc⊕Ret):=
 some (.inl (.l0 ((0:Int))))
def ixrS0(l:List (List Int))(c v0:Int):Option (ixrPc⊕Ret):=
 br (decide (v0<iN (gL l).length))
 (gu (0≤v0) <|
  el l (v0.toNat) fun(x14:List Int)=>
  gu (x14.length≤9000000000000000000) <|
  br (hasZ x14 c)
  (some (.inr ([some (Blk.mk [AV.int IntKind.i64 c] 1 true true none)],AV.int IntKind.i64 v0)))
  (some (.inl (.l0 (IntKind.i64.wrap (v0+1))))))
 (some (.inr ([some (Blk.mk [AV.int IntKind.i64 c] 1 true true none)],AV.int IntKind.i64 (-1))))
def ixrStep(l:List (List Int))(c:Int):ixrPc→Option (ixrPc⊕Ret)
 | .l0 v0=>ixrS0 l c v0
theorem ixrEn_ok(l:List (List Int))(c:Int)(o:ixrPc⊕Ret)(h:ixrEn l c=some o):Arr Try.prog Try.f99 1 (ixrSt l c) ixrHd (zB Try.f99) [] {n:=Try.f99.ntmps,fr:=enumF 0 ([.lst (gL l),.fn 53 [.ptr 0 0 0]]),hp:=([some (Blk.mk [.int .i64 c] 1 true true none)])} o:=
 Scr.ok h mix (
 .lp [] [] [] [] [] [0] [0,1,7,8] (aj (u2 (al (u2 (u2 t2)))) (ak (u2 t4)))) (by kernel_rfl)
theorem ixrS0_ok(l:List (List Int))(c v0:Int)(o:ixrPc⊕Ret)(h:ixrS0 l c v0=some o):Arr Try.prog Try.f99 1 (ixrSt l c) ixrHd (headC Try.f99 0) (.rnd (headC Try.f99 0)::headK Try.f99 0) (ixrSt l c (.l0 v0)) o:=
 Scr.ok h mix (
 .rn 0 [] [] [] [] (al (al t3)) <|
 .br (fun a0=>
 .rn 0 [19] [] [] [] (aj a0 (al (u2 s2))) <|
 .gu fun a1=>
 .el fun x14 a2=>
 .gu fun a3=>
 have c0:=rd1_c x14 c a3;
 .rn 0 [] [(14,lI x14)] [(16,hK c0 [0] [])] [] (al (u2 (u2 (u2 (aj (k2 (aj a1 (getMap (f:=lI) a2))) (u2 (al (k5 (al (c0)))))))))) <|
 .br (fun a4=>
  .rt [33] [] [] [] [0] [] (aj (aj a4 (al (u2 s2))) t3))
 (fun a4=>
  .lp [32] [] [] [] [] [0] [0,1,7,8] (aj (aj a4 (al (u2 s2))) (ak (u2 t4)))))
 (fun a0=>
 .rt [18] [] [] [] [0] [] (aj (aj a0 s2) t3))) (by kernel_rfl)
theorem ixr_ct(l:List (List Int))(c:Int)(r:Ret)(h:MReach (ixrStep l c) (ixrEn l c) r):CT Try.prog 99 ([some (Blk.mk [.int .i64 c] 1 true true none)]) ([.lst (gL l),.fn 53 [.ptr 0 0 0]]) r.1 r.2:=
 CT.mach (fn:=Try.f99) (c:=zB Try.f99) (S:=ixrSt l c) (hd:=ixrHd) Try.func99 (by kernel_rfl) (Nat.le_of_ble_eq_true rfl)
  (fun s o ho=>match s,ho with
   | .l0 v0,ho=>ixrS0_ok l c v0 o ho
  )
  (fun o ho=>ixrEn_ok l c o ho) h
def ixR(c:Int):List (List Int)→Nat→Int
 | [],_=> -1
 | r::l,i=>match hasZ r c with | true=>(i:Int) | false=>ixR c l (i+1)
def anyR(l:List (List Int))(c:Int):Bool:=l.any fun r=>hasZ r c
theorem ixR_any{c:Int}:∀(l:List (List Int)) (i:Nat),decide (0≤ixR c l i)=anyR l c:=by
 intro l
 induction l with
 | nil=>intro i;rfl
 | cons r l ih=>
  intro i
  unfold ixR anyR
  rw[List.any_cons]
  cases h:hasZ r c with
  | true=>exact decide_eq_true (by show(0:Int)≤i;omega)
  | false=>exact(ih (i+1)).trans rfl
theorem ixr_c(l:List (List Int))(c:Int)(hl:l.length≤1000000000)(hr:∀r∈l,r.length≤1000000000):CT Try.prog 99 [some (Blk.mk [.int .i64 c] 1 true true none)] [.lst (gL l),.fn 53 [.ptr 0 0 0]] [some (Blk.mk [.int .i64 c] 1 true true none)] (.int .i64 (ixR c l 0)):=by
 refine ixr_ct l c ([_],_) ?_
 have main:∀(t:List (List Int)) (i:Nat),l.drop i=t→i≤l.length→MReach (ixrStep l c) (some (.inl (.l0 (i:Int)))) ([some (Blk.mk [.int .i64 c] 1 true true none)],.int .i64 (ixR c t i)):=by
  intro t
  induction t with
  | nil=>
   intro i hd hi
   have hlen:i=l.length:=by have:=congrArg List.length hd;simp at this;omega
   subst hlen
   refine .to (show ixrS0 l c _=_ from ?_) (.ret _)
   unfold ixrS0
   rw[show (gL l).length=(List.map lI l).length from rfl,rngE]
   rfl
  | cons x t ih=>
   intro i hd hi
   have hx:l[i]?=some x:=by have:=congrArg (·[0]?) hd;simpa using this
   have hil:=(List.getElem?_eq_some_iff.1 hx).1
   have hx2:=hr x (List.mem_of_getElem? hx)
   have hn:l.drop (i+1)=t:=by rw[←List.drop_drop,hd];rfl
   have e:ixrS0 l c (i:Int)=br (hasZ x c) (some (.inr ([some (Blk.mk [.int .i64 c] 1 true true none)],AV.int IntKind.i64 (i:Int)))) (some (.inl (.l0 ((i+1:Nat):Int)))):=by
    unfold ixrS0
    rw[show (gL l).length=(List.map lI l).length from rfl,rngS hx,gu_t (by omega),zW i (by omega)]
   unfold ixR
   cases h:hasZ x c with
   | true=>
    refine .to (show ixrS0 l c _=_ from ?_) (.ret _)
    rw[e,h,br_t rfl]
   | false=>
    refine .to (show ixrS0 l c _=_ from ?_) (ih (i+1) hn hil)
    rw[e,h,br_f rfl]
 exact main l 0 rfl (Nat.zero_le _)
def cofSt(l:List (List Int))(c:Int):Empty→St
 | x=>x.elim
def cofHd:Empty→Nat
 | x=>x.elim
def cofEn(l:List (List Int))(c:Int):Option (Empty⊕Ret):=
 gu (l.length≤1000000000) <|
 gu (∀(r:List Int),r∈l→r.length≤1000000000) <|
 some (.inr ([some (Blk.mk [AV.int IntKind.i64 c] 1 true true none)],AV.bool (decide (0≤ixR c l 0))))
def cofStep(l:List (List Int))(c:Int):Empty→Option (Empty⊕Ret)
 | x=>x.elim
theorem cofEn_ok(l:List (List Int))(c:Int)(o:Empty⊕Ret)(h:cofEn l c=some o):Arr Try.prog Try.f52 1 (cofSt l c) cofHd (zB Try.f52) [] {n:=Try.f52.ntmps,fr:=enumF 0 ([.lst (gL l),.fn 53 [.ptr 0 0 0]]),hp:=([some (Blk.mk [.int .i64 c] 1 true true none)])} o:=
 Scr.ok h mix (
 .rn 0 [] [] [] [] s2 <|
 .gu fun a0=>
 .gu fun a1=>
 have c0:=ixr_c l c a0 a1;
 .rt [] [] [(7,hK c0 [0] [])] [] [0] [] (aj (al (u2 (u2 (aj (k3 (u2 (ak (al (c0))))) (u2 s2))))) t3)) (by kernel_rfl)
theorem cof_ct(l:List (List Int))(c:Int)(r:Ret)(h:MReach (cofStep l c) (cofEn l c) r):CT Try.prog 52 ([some (Blk.mk [.int .i64 c] 1 true true none)]) ([.lst (gL l),.fn 53 [.ptr 0 0 0]]) r.1 r.2:=
 CT.mach (fn:=Try.f52) (c:=zB Try.f52) (S:=cofSt l c) (hd:=cofHd) Try.func52 (by kernel_rfl) (Nat.le_of_ble_eq_true rfl)
  (fun s o ho=>match s,ho with
   | x,_=>x.elim)
  (fun o ho=>cofEn_ok l c o ho) h
theorem cof_c(l:List (List Int))(c:Int)(hl:l.length≤1000000000)(hr:∀r∈l,r.length≤1000000000):CT Try.prog 52 [some (Blk.mk [.int .i64 c] 1 true true none)] [.lst (gL l),.fn 53 [.ptr 0 0 0]] [some (Blk.mk [.int .i64 c] 1 true true none)] (.bool (anyR l c)):=by
 refine cof_ct l c ([_],_) (.val ?_)
 unfold cofEn
 rw[gu_t hl,gu_t hr,ixR_any]
inductive rdyPc where
 | l0 (v0 v1:Int)
def rdySt(n:NetD)(cl:List Bool)(bw pe:List Int)(ow:List Int)(qu:List (List Int))(g:List (List Int))(l:List Bool):rdyPc→St
 | .l0 v0 v1=>St.mk 95 [(4,AV.lst (boL l)),(12,AV.ptr 0 0 0),(71,AV.lst (List.map sA n.ss)),(72,iv (iN (List.map sA n.ss).length)),(73,iv v0)] [some (Blk.mk [iv v1] 1 true true none)]
def rdyHd:rdyPc→Nat
 | .l0 _ _=>0
def rdyEn(n:NetD)(cl:List Bool)(bw pe:List Int)(ow:List Int)(qu:List (List Int))(g:List (List Int))(l:List Bool):Option (rdyPc⊕Ret):=
 gu (Rows n.nx) <|
 br (!sigB n (SigD.mk cl bw pe))
 (some (.inr ([],AV.tup [AV.bool false,AV.int IntKind.i64 20])))
 (br (!lokB (LokD.mk ow qu))
  (some (.inr ([],AV.tup [AV.bool false,AV.int IntKind.i64 20])))
  (br (iN (List.map (AV.int IntKind.i64) ow).length != iN (boL cl).length)
   (some (.inr ([],AV.tup [AV.bool false,AV.int IntKind.i64 19])))
   (br (iN (boL l).length != iN (List.map sA n.ss).length)
    (some (.inr ([],AV.tup [AV.bool false,AV.int IntKind.i64 19])))
    (br (iN (List.map (AV.int IntKind.i64) pe).length==0)
     (some (.inr ([],AV.tup [AV.bool false,AV.int IntKind.i64 0])))
     (el (pe) (Int.toNat 0) fun(x48:Int)=>
      gu (0≤x48) <|
      el (ow) (x48.toNat) fun(x53:Int)=>
      br (x53 != -1)
      (some (.inr ([],AV.tup [AV.bool false,AV.int IntKind.i64 0])))
      (el (qu) (x48.toNat) fun(x60:List Int)=>
       br (decide (0<iN (List.map (AV.int IntKind.i64) x60).length))
       (some (.inr ([],AV.tup [AV.bool false,AV.int IntKind.i64 0])))
       (gu (g.length≤1000000000) <|
        gu (∀(r:List Int),r∈g→r.length≤1000000000) <|
        br (anyR g x48)
        (some (.inr ([],AV.tup [AV.bool false,AV.int IntKind.i64 0])))
        (some (.inl (.l0 ((0:Int)) x48))))))))))
def rdyS0(n:NetD)(cl:List Bool)(bw pe:List Int)(ow:List Int)(qu:List (List Int))(g:List (List Int))(l:List Bool)(v0 v1:Int):Option (rdyPc⊕Ret):=
 br (decide (v0<iN (List.map sA n.ss).length))
 (gu (0≤v0) <|
  el (n.ss) (v0.toNat) fun(x76:SpuD)=>
  el l (v0.toNat) fun(x80:Bool)=>
  br x80
  (br (x76.i==v1)
   (some (.inr ([],AV.tup [AV.bool false,AV.int IntKind.i64 0])))
   (br (x76.o==v1)
    (some (.inr ([],AV.tup [AV.bool false,AV.int IntKind.i64 0])))
    (some (.inl (.l0 (IntKind.i64.wrap (v0+1)) v1)))))
  (some (.inl (.l0 (IntKind.i64.wrap (v0+1)) v1))))
 (some (.inr ([],AV.tup [AV.bool true,AV.int IntKind.i64 0])))
def rdyStep(n:NetD)(cl:List Bool)(bw pe:List Int)(ow:List Int)(qu:List (List Int))(g:List (List Int))(l:List Bool):rdyPc→Option (rdyPc⊕Ret)
 | .l0 v0 v1=>rdyS0 n cl bw pe ow qu g l v0 v1
theorem rdyEn_ok(n:NetD)(cl:List Bool)(bw pe:List Int)(ow:List Int)(qu:List (List Int))(g:List (List Int))(l:List Bool)(o:rdyPc⊕Ret)(h:rdyEn n cl bw pe ow qu g l=some o):Arr Try.prog Try.f20 0 (rdySt n cl bw pe ow qu g l) rdyHd (zB Try.f20) [] {n:=Try.f20.ntmps,fr:=enumF 0 ([netA n,sgA ⟨cl,bw,pe⟩,lkA ⟨ow,qu⟩,.lst (gL g),.lst (boL l)]),hp:=([])} o:=
 Scr.ok h mix (
 .rn 0 [] [] [] [] (al (u2 (u2 (u2 t3)))) <|
 .gu fun a0=>
 .br (fun a1=>
 have c0:=sva_c (cl) (bw) (pe) a0;
 .rt [41] [] [(18,hK c0 [] [])] [] [] [] (aj (aj (u2 (u2 (aj (k2 (aj t9 (aj t4 (al (c0))))) (u2 (u2 (aj a1 (aj a1 (aj a1 (ag a1 s2))))))))) (ak (al t3))) (al t3)))
 (fun a1=>
 have c0:=sva_c (cl) (bw) (pe) a0;
 have c1:=ilv_c (LokD.mk ow qu);
 .rn 0 [40] [] [(18,hK c0 [] []),(22,hK c1 [] [])] [] (al (u2 (u2 (aj (k2 (aj t9 (aj t4 (al (c0))))) (u2 (u2 (ag a1 (aj (aj a1 (ak (aj t3 (al (c1))))) (ag a1 (ag a1 s2)))))))))) <|
 .br (fun a2=>
  .rt [40,31] [] [] [] [] [] (aj (aj a2 (al t3)) (al t3)))
 (fun a2=>
  .br (fun a3=>
  .rt [40,30,67] [] [] [] [] [] (aj (aj a2 (aj (u2 (u2 (u2 (u2 (u2 (u2 (aj t3 (u2 (aj a3 (aj a3 (aj a3 (aj a3 (aj a3 (aj a3 (ag a3 s2))))))))))))))) (ak (al t3)))) (al t3)))
  (fun a3=>
  .rn 0 [40,30,66] [] [] [] (aj a2 (al (u2 (u2 (u2 (u2 (u2 (u2 (aj t3 (u2 (ag a3 (ag a3 (ag a3 (ag a3 (ag a3 (aj (aj a3 t3) (ag a3 s2))))))))))))))))) <|
  .br (fun a4=>
   .rt [40,66,51] [] [] [] [] [] (aj (aj a4 (al t3)) (al t3)))
  (fun a4=>
   .rn 0 [40,66,50] [] [] [] (aj a4 (al (u2 (u2 (u2 (u2 s2)))))) <|
   .br (fun a5=>
   .rt [40,66,83] [] [] [] [] [] (aj (aj a5 (al t3)) (al t3)))
   (fun a5=>
   .el fun x48 a6=>
   .rn 0 [40,66,82] [(48,iv x48)] [] [] (aj a5 (al (u2 (u2 (aj (ak (aj (show(0:Int)≤(0:Int) from(by first | exact Nat.le_of_ble_eq_true rfl | decide)) (getMap (f:=iv) a6))) (u2 (ak (al (k2 n11))))))))) <|
   .gu fun a7=>
   .el fun x53 a8=>
   .br (fun a9=>
    .rt [40,66,113] [(53,iv x53)] [] [] [] [] (aj (aj (u2 (u2 (u2 (aj (k2 (aj a7 (getMap (f:=iv) a8))) (u2 (u2 (u2 (aj a9 (aj a9 (aj a9 (aj a9 (aj a9 (aj a9 (aj a9 (ag a9 (u2 (k3 (al t3)))))))))))))))))) (ak (al t3))) (al t3)))
   (fun a9=>
    .el fun x60 a10=>
    .br (fun a11=>
    .rt [40,66,112,131] [(53,iv x53),(60,lI x60)] [] [] [] [] (aj (aj (u2 (u2 (u2 (aj (k2 (aj a7 (getMap (f:=iv) a8))) (u2 (u2 (u2 (ag a9 (ag a9 (ag a9 (aj (aj a9 (k2 (aj a7 (getMap (f:=lI) a10)))) (ag a9 (ag a9 (ag a9 (ag a9 (u2 (aj a11 (aj a11 (aj a11 (al (aj a11 t2))))))))))))))))))))) (ak (al t3))) (al t3)))
    (fun a11=>
    .gu fun a12=>
    .gu fun a13=>
    have c2:=cof_c g x48 a12 a13;
    .rn 0 [40,66,112,130] [(53,iv x53),(60,lI x60)] [(68,hK c2 [3] [])] [] (al (u2 (u2 (u2 (aj (k2 (aj a7 (getMap (f:=iv) a8))) (u2 (u2 (u2 (ag a9 (ag a9 (ag a9 (aj (aj a9 (k2 (aj a7 (getMap (f:=lI) a10)))) (ag a9 (ag a9 (ag a9 (ag a9 (u2 (ag a11 (ag a11 (aj (aj a11 (k3 (u2 (ak (al (c2)))))) (al (aj a11 t2)))))))))))))))))))))) <|
    .br (fun a14=>
     .rt [40,66,112,130,139] [] [] [] [] [] (aj (aj a14 (al t3)) (al t3)))
    (fun a14=>
     .lp [40,66,112,130,138] [] [] [] [] [3] [4,12,71,72,73] (aj (aj a14 (al (u2 (u2 (u2 t2))))) t7)))))))))) (by kernel_rfl)
theorem rdyS0_ok(n:NetD)(cl:List Bool)(bw pe:List Int)(ow:List Int)(qu:List (List Int))(g:List (List Int))(l:List Bool)(v0 v1:Int)(o:rdyPc⊕Ret)(h:rdyS0 n cl bw pe ow qu g l v0 v1=some o):Arr Try.prog Try.f20 0 (rdySt n cl bw pe ow qu g l) rdyHd (headC Try.f20 0) (.rnd (headC Try.f20 0)::headK Try.f20 0) (rdySt n cl bw pe ow qu g l (.l0 v0 v1)) o:=
 Scr.ok h mix (
 .rn 0 [] [] [] [] (al (al t3)) <|
 .br (fun a0=>
 .gu fun a1=>
 .el fun x76 a2=>
 .rn 0 [149] [(76,sA x76)] [] [] (aj a0 (al (u2 (aj (k2 (aj a1 (getMap (f:=sA) a2))) (u2 (ak (u2 (al (k2 n11))))))))) <|
 .el fun x80 a3=>
 .br (fun a4=>
  .br (fun a5=>
  .rt [165,175] [(80,AV.bool x80)] [] [] [] [] (aj (aj (u2 (u2 (aj (k2 (aj a1 (getMap (f:=AV.bool) a3))) (u2 (u2 (ag a4 (ag a4 (ag a4 (aj (aj a4 t3) (ag a4 (aj a5 (aj a5 (aj a5 (aj a5 (aj (aj a4 (aj a5 t2)) (al (aj a4 t2))))))))))))))))) (ak (al t3))) (al t3)))
  (fun a5=>
  .rn 0 [165,174] [(80,AV.bool x80)] [] [] (al (u2 (u2 (aj (k2 (aj a1 (getMap (f:=AV.bool) a3))) (u2 (u2 (ag a4 (ag a4 (ag a4 (aj (aj a4 t3) (ag a4 (ag a5 (ag a5 (ag a5 (aj (aj a5 t3) (aj (aj a4 (aj a5 t2)) (al (aj a4 t2)))))))))))))))))) <|
  .br (fun a6=>
   .rt [165,174,187] [] [] [] [] [] (aj (aj a6 (al t3)) (al t3)))
  (fun a6=>
   .lp [165,174,186] [] [] [] [] [0] [4,12,71,72,73] (aj (aj a6 (al (u2 s2))) t7))))
 (fun a4=>
  .lp [164] [(80,AV.bool x80)] [] [] [] [0] [4,12,71,72,73] (aj (aj (u2 (u2 (aj (k2 (aj a1 (getMap (f:=AV.bool) a3))) (u2 (u2 (aj a4 (aj a4 (aj a4 (aj a4 (aj a4 (ak (k3 (aj a4 (al (aj a4 t2))))))))))))))) (ak (al (u2 s2)))) t7)))
 (fun a0=>
 .rt [148] [] [] [] [] [] (aj (aj a0 (al t3)) (al t3)))) (by kernel_rfl)
theorem rdy_ct(n:NetD)(cl:List Bool)(bw pe:List Int)(ow:List Int)(qu:List (List Int))(g:List (List Int))(l:List Bool)(r:Ret)(h:MReach (rdyStep n cl bw pe ow qu g l) (rdyEn n cl bw pe ow qu g l) r):CT Try.prog 20 ([]) ([netA n,sgA ⟨cl,bw,pe⟩,lkA ⟨ow,qu⟩,.lst (gL g),.lst (boL l)]) r.1 r.2:=
 CT.mach (fn:=Try.f20) (c:=zB Try.f20) (S:=rdySt n cl bw pe ow qu g l) (hd:=rdyHd) Try.func20 (by kernel_rfl) (Nat.le_of_ble_eq_true rfl)
  (fun s o ho=>match s,ho with
   | .l0 v0 v1,ho=>rdyS0_ok n cl bw pe ow qu g l v0 v1 o ho
  )
  (fun o ho=>rdyEn_ok n cl bw pe ow qu g l o ho) h
def rdL(c:Int)(l:List Bool):List SpuD→Nat→Bool
 | [],_=>true
 | q::t,i=>match l.getD i false&&(q.i==c||q.o==c) with | true=>false | false=>rdL c l t (i+1)
def rdC(n:NetD)(w:LokD)(g:List (List Int))(l:List Bool):List Int→Bool
 | []=>false
 | c::_=>match w.ow.getD c.toNat 0 != -1||decide (0<iN (List.map (AV.int .i64) (w.qu.getD c.toNat [])).length)||anyR g c with | true=>false | false=>rdL c l n.ss 0
def rdE(n:NetD)(s:SigD)(w:LokD)(l:List Bool):Int:=if (sigB n s&&lokB w)=true then (if w.ow.length=s.cl.length∧l.length=n.ss.length then 0 else 19) else 20
def rdB(n:NetD)(s:SigD)(w:LokD)(g:List (List Int))(l:List Bool):Bool:=if rdE n s w l=0 then rdC n w g l s.pe else false
theorem rdL_no{c:Int}{l:List Bool}(h:∀i,l.getD i false=false):∀(t:List SpuD) (i:Nat),rdL c l t i=true:=by
 intro t
 induction t with
 | nil=>intro i;rfl
 | cons q t ih=>intro i;unfold rdL;rw[h];exact ih (i+1)
theorem rdy_c{n:NetD}(cl:List Bool)(bw pe ow:List Int)(qu g:List (List Int))(l:List Bool)(hrw:Rows n.nx)(hl:g.length≤1000000000)(hr:∀r∈g,r.length≤1000000000):CT Try.prog 20 [] [netA n,sgA ⟨cl,bw,pe⟩,lkA ⟨ow,qu⟩,.lst (gL g),.lst (boL l)] [] (.tup [.bool (rdB n ⟨cl,bw,pe⟩ ⟨ow,qu⟩ g l),.int .i64 (rdE n ⟨cl,bw,pe⟩ ⟨ow,qu⟩ l)]):=by
 refine rdy_ct n cl bw pe ow qu g l ([],_) ?_
 unfold rdyEn
 rw[gu_t hrw]
 have bad:∀{e:Int},rdE n ⟨cl,bw,pe⟩ ⟨ow,qu⟩ l=e→e≠0→rdB n ⟨cl,bw,pe⟩ ⟨ow,qu⟩ g l=false:=fun h h2=>by unfold rdB;rw[if_neg (by rw[h];exact h2)]
 cases h1:sigB n ⟨cl,bw,pe⟩ with
 | false=>
  have e:rdE n ⟨cl,bw,pe⟩ ⟨ow,qu⟩ l=20:=by unfold rdE;rw[h1];rfl
  rw[br_t (by rfl),bad e (by decide),e];exact .ret _
 | true=>
 rw[br_f (by rfl)]
 cases h2:lokB ⟨ow,qu⟩ with
 | false=>
  have e:rdE n ⟨cl,bw,pe⟩ ⟨ow,qu⟩ l=20:=by unfold rdE;rw[h1,h2];rfl
  rw[br_t (by rfl),bad e (by decide),e];exact .ret _
 | true=>
 obtain⟨hv,hS,l1,l2,l3,l4,l5⟩:=sig_len h1
 obtain⟨hlen,h48⟩:=lokB_len h2
 have hrows:=lok_rows h2
 have hss:=hv.ns
 simp only at hlen h48 hrows l1 l2 l3 l4 l5
 have eE:rdE n ⟨cl,bw,pe⟩ ⟨ow,qu⟩ l=if ow.length=cl.length∧l.length=n.ss.length then 0 else 19:=by unfold rdE;rw[h1,h2];rfl
 have hbl:=boL_len cl
 have hbl2:=boL_len l
 rw[br_f (by rfl)]
 by_cases h3:ow.length=cl.length
 case neg=>
  have e:=eE.trans (if_neg fun hh=>h3 hh.1)
  rw[br_t (bne_iff_ne.2 (by rw[List.length_map,hbl];simp only[iN];omega)),bad e (by decide),e];exact .ret _
 rw[br_f (by rw[List.length_map,hbl,h3];simp)]
 by_cases h4:l.length=n.ss.length
 case neg=>
  have e:=eE.trans (if_neg fun hh=>h4 hh.2)
  rw[br_t (bne_iff_ne.2 (by rw[List.length_map,hbl2];simp only[iN];omega)),bad e (by decide),e];exact .ret _
 rw[br_f (by rw[List.length_map,hbl2,h4];simp)]
 have e:=eE.trans (if_pos ⟨h3,h4⟩)
 have eB:rdB n ⟨cl,bw,pe⟩ ⟨ow,qu⟩ g l=rdC n ⟨ow,qu⟩ g l pe:=by unfold rdB;rw[if_pos e]
 rw[e,eB]
 cases hpe:pe with
 | nil=>rw[br_t (by rfl)];exact .ret _
 | cons c t=>
  have hc:=l5 c (by rw[hpe];exact List.mem_cons_self ..)
  have hq:=getE ([]:List Int) (show c.toNat<qu.length by omega)
  rw[br_f (beq_eq_false_iff_ne.2 (by simp only[iN,List.length_map,List.length_cons];omega)),el_t (show(c::t)[Int.toNat 0]?=some c from rfl),gu_t hc.1,el_t (getE 0 (show c.toNat<ow.length by omega))]
  unfold rdC
  simp only
  cases k1:ow.getD c.toNat 0 != -1 with
  | true=>rw[br_t rfl];exact .ret _
  | false=>
  rw[br_f rfl,el_t hq,Bool.false_or]
  cases k2:decide (0<iN (List.map (AV.int .i64) (qu.getD c.toNat [])).length) with
  | true=>rw[br_t rfl];exact .ret _
  | false=>
  rw[br_f rfl,gu_t hl,gu_t hr,Bool.false_or]
  cases k3:anyR g c with
  | true=>rw[br_t rfl];exact .ret _
  | false=>
  rw[br_f rfl]
  simp only
  have main:∀(t:List SpuD) (i:Nat),n.ss.drop i=t→i≤n.ss.length→MReach (rdyStep n cl bw pe ow qu g l) (some (.inl (.l0 (i:Int) c))) ([],.tup [.bool (rdL c l t i),.int .i64 0]):=by
   intro t
   induction t with
   | nil=>
    intro i hd hi
    have hlen:i=n.ss.length:=by have:=congrArg List.length hd;simp at this;omega
    subst hlen
    refine .to (show rdyS0 n cl bw pe ow qu g l _ _=_ from ?_) (.ret _)
    unfold rdyS0
    rw[rngE];rfl
   | cons x t ih=>
    intro i hd hi
    have hx:n.ss[i]?=some x:=by have:=congrArg (·[0]?) hd;simpa using this
    have hil:=(List.getElem?_eq_some_iff.1 hx).1
    have hn:n.ss.drop (i+1)=t:=by rw[←List.drop_drop,hd];rfl
    have e:rdyS0 n cl bw pe ow qu g l (i:Int) c=br (l.getD i false&&(x.i==c||x.o==c)) (some (.inr ([],AV.tup [AV.bool false,AV.int IntKind.i64 0]))) (some (.inl (.l0 ((i+1:Nat):Int) c))):=by
     unfold rdyS0
     rw[rngS hx,elG false (show i<l.length by omega),zW i (by omega),br_or,br_and]
    unfold rdL
    cases h:l.getD i false&&(x.i==c||x.o==c) with
    | true=>
     refine .to (show rdyS0 n cl bw pe ow qu g l _ _=_ from ?_) (.ret _)
     rw[e,h,br_t rfl]
    | false=>
     refine .to (show rdyS0 n cl bw pe ow qu g l _ _=_ from ?_) (ih (i+1) hn hil)
     rw[e,h,br_f rfl]
  have hfin:=main n.ss 0 rfl (Nat.zero_le _)
  rw[hpe] at hfin
  exact hfin
def kC(n:NetD):List Bool:=List.replicate (celN n) false
def kB(n:NetD):List Int:=List.replicate (celN n) (-1)
def kO(n:NetD):List Int:=List.replicate (celN n) (-1)
def kP(n:NetD):List Int:=(kO n).set 0 0
def kQ(n:NetD):List (List Int):=List.replicate (celN n) []
theorem kO_len(n:NetD):(kO n).length=celN n:=List.length_replicate ..
theorem kP_len(n:NetD):(kP n).length=celN n:=(List.length_set ..).trans (kO_len n)
theorem kC_len(n:NetD):(kC n).length=celN n:=List.length_replicate ..
theorem kQ_get(n:NetD)(i:Nat):(kQ n).getD i []=[]:=by
 unfold kQ
 rw[List.getD_eq_getElem?_getD,List.getElem?_replicate]
 split<;>rfl
theorem kC_get{n:NetD}{i:Nat}(h:i<celN n):(kC n).getD i true=false:=getR h
theorem kO_get{n:NetD}{i:Nat}(h:i<celN n):(kO n).getD i 0 = -1:=getR h
theorem lok_emp{ow:List Int}{k:Nat}(hk:k≤48)(hl:ow.length=k)(h:∀i,i<k→-1≤ow.getD i 0∧ow.getD i 0<8):lokB ⟨ow,List.replicate k []⟩=true:=by
 unfold lokB
 simp only[Bool.and_eq_true,decide_eq_true_eq,Option.isNone_iff_eq_none,List.length_replicate]
 refine⟨by omega,hl,fnd_false fun i _ hi=>?_⟩
 have:=h i (by omega)
 have e:(List.replicate k ([]:List Int)).getD i []=[]:=by
  rw[List.getD_eq_getElem?_getD,List.getElem?_replicate];split<;>rfl
 unfold bdR bdO
 simp only[e]
 rw[dec_f (by omega),dec_f (by omega)];rfl
theorem kO_ok{n:NetD}(hv:ValidN n):lokB ⟨kO n,kQ n⟩=true:=lok_emp (celN_le hv).1 (kO_len n) fun i hi=>by rw[kO_get hi];omega
theorem kP_ok{n:NetD}(hv:ValidN n):lokB ⟨kP n,kQ n⟩=true:=lok_emp (celN_le hv).1 (kP_len n) fun i hi=>by
 unfold kP
 rw[getS]
 split
 ·omega
 ·rw[kO_get hi];omega
theorem kS0_ok(n:NetD):SigOk n ⟨kC n,kB n,[]⟩:=newS_ok n
theorem kS1_ok{n:NetD}(hv:ValidN n):SigOk n ⟨kC n,kB n,[0]⟩:=by
 have h1:=celN_le hv
 have h2:=hv.nb24
 exact anS_ok (s:=⟨kC n,kB n,[]⟩) (x:=0) (kS0_ok n) ⟨by omega,by omega⟩ (kC_get (by show 0<_;omega)) (by simp)
theorem kS2_ok{n:NetD}(hv:ValidN n)(h2:2≤n.bs.length):SigOk n ⟨kC n,kB n,[0,1]⟩:=by
 have h1:=celN_le hv
 exact anS_ok (s:=⟨kC n,kB n,[0]⟩) (x:=1) (kS1_ok hv) ⟨by omega,by omega⟩ (kC_get (by show 1<_;omega)) (by simp)
theorem ks_b{n:NetD}(hv:ValidN n){s:SigD}(h:SigOk n s):sigB n s=true:=sigB_iff.2 ⟨hv,h⟩
theorem n14_x{n:NetD}(hv:ValidN n)(hrw:Rows n.nx):CT Try.prog 14 [] [netA n] [] (.tup [sgA ⟨kC n,kB n,[]⟩,.int .i64 0]):=by
 have h:=n14_c hrw
 have e1:nsS n=⟨kC n,kB n,[]⟩:=by unfold nsS;rw[valB_iff.2 hv];rfl
 have e2:nsE n=0:=by unfold nsE;rw[valB_iff.2 hv];rfl
 rw[e1,e2] at h
 exact h
theorem an_x{n:NetD}{cl:List Bool}{bw pe:List Int}{x:Int}(hv:ValidN n)(hrw:Rows n.nx)(hs:SigOk n ⟨cl,bw,pe⟩)(hx:0≤x∧x<(n.bs.length:Int))(hc:cl.getD x.toNat true=false)(hp:x∉pe):CT Try.prog 16 [] [netA n,sgA ⟨cl,bw,pe⟩,.int .i64 x] [] (.tup [sgA ⟨cl,bw,pe++[x]⟩,.int .i64 0]):=by
 have h:=ann_c (n:=n) cl bw pe x hrw
 have hg:=shtS_get hv hs x.toNat
 rw[Int.toNat_of_nonneg hx.1] at hg
 have hz:hasZ pe x=false:=by cases hh:hasZ pe x with | false=>rfl | true=>exact absurd (hasZ_iff.1 hh) hp
 have e1:anE n ⟨cl,bw,pe⟩ x=0:=by
  unfold anE
  rw[if_pos (ks_b hv hs),if_pos hx,hg,if_neg]
  simp only[hc,hz];decide
 have e2:anO n ⟨cl,bw,pe⟩ x=⟨cl,bw,pe++[x]⟩:=by unfold anO;rw[if_pos e1];rfl
 rw[e1,e2] at h
 exact h
theorem an0_x{n:NetD}(hv:ValidN n)(hrw:Rows n.nx):CT Try.prog 16 [] [netA n,sgA ⟨kC n,kB n,[]⟩,.int .i64 0] [] (.tup [sgA ⟨kC n,kB n,[0]⟩,.int .i64 0]):=by
 have h1:=celN_le hv
 have h2:=hv.nb24
 exact an_x hv hrw (kS0_ok n) ⟨by omega,by omega⟩ (kC_get (by show 0<_;omega)) (by simp)
theorem an1_x{n:NetD}(hv:ValidN n)(hrw:Rows n.nx)(h2:2≤n.bs.length):CT Try.prog 16 [] [netA n,sgA ⟨kC n,kB n,[0]⟩,.int .i64 1] [] (.tup [sgA ⟨kC n,kB n,[0,1]⟩,.int .i64 0]):=by
 have h1:=celN_le hv
 exact an_x hv hrw (kS1_ok hv) ⟨by omega,by omega⟩ (kC_get (by show 1<_;omega)) (by simp)
theorem n19_x{n:NetD}(hv:ValidN n):CT Try.prog 17 [] [.int .i64 (iN (celN n))] [] (.tup [lkA ⟨kO n,kQ n⟩,.int .i64 0]):=by
 have h:=n19_c (iN (celN n))
 have h1:=celN_le hv
 have hi:0≤iN (celN n)∧iN (celN n)≤48:=⟨by simp only[iN];omega,by simp only[iN];omega⟩
 have e1:nlS (iN (celN n))=⟨kO n,kQ n⟩:=by unfold nlS;rw[if_pos hi];rfl
 have e2:nlE (iN (celN n))=0:=by unfold nlE;rw[if_pos hi]
 rw[e1,e2] at h
 exact h
theorem own_x{n:NetD}(hv:ValidN n):CT Try.prog 19 [] [lkA ⟨kO n,kQ n⟩,.int .i64 0,.int .i64 0] [] (.tup [lkA ⟨kP n,kQ n⟩,.int .i64 0]):=by
 have h:=own_c (kO n) (kQ n) 0 0
 have h1:=celN_le hv
 have h2:=hv.nb24
 have hk:k9E ⟨kO n,kQ n⟩ 0 0=0:=by unfold k9E;rw[if_pos (kO_ok hv),if_pos ⟨by omega,by omega,by omega,by show(0:Int)<((kO n).length:Int);rw[kO_len];omega⟩]
 have e1:owE ⟨kO n,kQ n⟩ 0 0=0:=by
  unfold owE
  rw[if_pos hk,if_neg]
  show ¬((kO n).getD 0 0≠-1∨hasZ ((kQ n).getD 0 []) 0=true)
  rw[kO_get (by omega),kQ_get]
  simp[hasZ_iff]
 have e2:owO ⟨kO n,kQ n⟩ 0 0=⟨kP n,kQ n⟩:=by unfold owO;rw[if_pos e1];rfl
 rw[e1,e2] at h
 exact h
theorem rel_x{n:NetD}(hv:ValidN n):CT Try.prog 42 [] [lkA ⟨kP n,kQ n⟩,.int .i64 0] [] (.tup [lkA ⟨kO n,kQ n⟩,.int .i64 0]):=by
 have h:=rel_c (kP n) (kQ n) 0
 have h1:=celN_le hv
 have h2:=hv.nb24
 have hk:k9E ⟨kP n,kQ n⟩ 0 0=0:=by unfold k9E;rw[if_pos (kP_ok hv),if_pos ⟨by omega,by omega,by omega,by show(0:Int)<((kP n).length:Int);rw[kP_len];omega⟩]
 have e1:reE ⟨kP n,kQ n⟩ 0=0:=by
  unfold reE
  rw[if_pos hk,if_neg]
  show ¬((kP n).getD 0 0 = -1)
  unfold kP
  rw[getS_eq (by rw[kO_len];omega)];decide
 have e3:(kP n).set 0 (-1)=kO n:=by
  unfold kP
  rw[List.set_set]
  refine List.ext_getElem? fun j=>?_
  rw[List.getElem?_set,kO_len]
  split
  ·rename_i hj;subst hj;rw[if_pos (by omega),getE 0 (show 0<(kO n).length by rw[kO_len];omega),kO_get (by omega)]
  ·rfl
 have e2:reO ⟨kP n,kQ n⟩ 0=⟨kO n,kQ n⟩:=by
  unfold reO;rw[if_pos e1]
  show(⟨(kP n).set 0 (-1),kQ n⟩:LokD)=_
  rw[e3]
 rw[e1,e2] at h
 exact h
theorem krdE{n:NetD}{ow:List Int}(hv:ValidN n)(h2:2≤n.bs.length)(hw:lokB ⟨ow,kQ n⟩=true)(hl:ow.length=celN n):rdE n ⟨kC n,kB n,[0,1]⟩ ⟨ow,kQ n⟩ (List.replicate n.ss.length false)=0:=by
 unfold rdE
 rw[ks_b hv (kS2_ok hv h2),hw,if_pos (by rfl),if_pos ⟨by rw[hl];exact(kC_len n).symm,List.length_replicate ..⟩]
theorem krdB{n:NetD}{ow:List Int}{g:List (List Int)}(hv:ValidN n)(h2:2≤n.bs.length)(hw:lokB ⟨ow,kQ n⟩=true)(hl:ow.length=celN n):rdB n ⟨kC n,kB n,[0,1]⟩ ⟨ow,kQ n⟩ g (List.replicate n.ss.length false)=!(ow.getD 0 0 != -1||anyR g 0):=by
 unfold rdB
 rw[if_pos (krdE hv h2 hw hl)]
 unfold rdC
 simp only[kQ_get]
 show(match ow.getD 0 0 != -1||false||anyR g 0 with | true=>false | false=>_)=_
 rw[Bool.or_false]
 cases ow.getD 0 0 != -1||anyR g 0 with
 | true=>rfl
 | false=>exact rdL_no (fun i=>by rw[List.getD_eq_getElem?_getD,List.getElem?_replicate];split<;>rfl) _ _
theorem boR(k:Nat):List.replicate k (AV.bool false)=boL (List.replicate k false):=by unfold boL;rw[List.map_replicate]
theorem rdy1_x{n:NetD}(hv:ValidN n)(hrw:Rows n.nx)(h2:2≤n.bs.length):CT Try.prog 20 [] [netA n,sgA ⟨kC n,kB n,[0,1]⟩,lkA ⟨kP n,kQ n⟩,.nils,.lst (List.replicate (List.map sA n.ss).length (.bool false))] [] (.tup [.bool false,.int .i64 0]):=by
 have h:=rdy_c (n:=n) (kC n) (kB n) [0,1] (kP n) (kQ n) [] (List.replicate n.ss.length false) hrw (by decide) (by intro r hr;cases hr)
 have h1:=celN_le hv
 rw[krdE hv h2 (kP_ok hv) (kP_len n),krdB hv h2 (kP_ok hv) (kP_len n)] at h
 rw[show (kP n).getD 0 0=0 from getS_eq (by rw[kO_len];omega)] at h
 rw[List.length_map,boR]
 exact h.nilArgs rfl
theorem rdy2_x{n:NetD}(hv:ValidN n)(hrw:Rows n.nx)(h2:2≤n.bs.length):CT Try.prog 20 [] [netA n,sgA ⟨kC n,kB n,[0,1]⟩,lkA ⟨kO n,kQ n⟩,.nils,.lst (List.replicate (List.map sA n.ss).length (.bool false))] [] (.tup [.bool true,.int .i64 0]):=by
 have h:=rdy_c (n:=n) (kC n) (kB n) [0,1] (kO n) (kQ n) [] (List.replicate n.ss.length false) hrw (by decide) (by intro r hr;cases hr)
 have h1:=celN_le hv
 rw[krdE hv h2 (kO_ok hv) (kO_len n),krdB hv h2 (kO_ok hv) (kO_len n)] at h
 rw[kO_get (by omega)] at h
 rw[List.length_map,boR]
 exact h.nilArgs rfl
theorem rdy3_x{n:NetD}(hv:ValidN n)(hrw:Rows n.nx)(h2:2≤n.bs.length):CT Try.prog 20 [] [netA n,sgA ⟨kC n,kB n,[0,1]⟩,lkA ⟨kO n,kQ n⟩,.lst (gL [[0]]),.lst (List.replicate (List.map sA n.ss).length (.bool false))] [] (.tup [.bool false,.int .i64 0]):=by
 have h:=rdy_c (n:=n) (kC n) (kB n) [0,1] (kO n) (kQ n) [[0]] (List.replicate n.ss.length false) hrw (by decide) (by intro r hr;rw[List.mem_singleton.1 hr];decide)
 have h1:=celN_le hv
 have ea:anyR [[0]] 0=true:=by unfold anyR;rw[List.any_cons,show hasZ [0] 0=true from hasZ_iff.2 (by simp)];rfl
 rw[krdE hv h2 (kO_ok hv) (kO_len n),krdB hv h2 (kO_ok hv) (kO_len n),ea,Bool.or_true] at h
 rw[List.length_map,boR]
 exact h
@[irreducible] def kN:NetD:=netM [3] 0 5
theorem kN_ok:NetOk kN:=by unfold kN;exact(net_spec (by decide) (by decide)).1
theorem kN_nb:2≤kN.bs.length:=by
 have h:=net_nb (L:=[3]) (kk:=0) (most:=5) (by decide) (by decide)
 have e:nextZ [3] 0 5=3:=by decide +kernel
 unfold kN
 omega
theorem kN_ct:CT Try.prog 28 [some (tapeB [3] 0)] [.ptr 0 0 0,.int .i64 5] [some (tapeB [3] (netK [3] 0 5))] (netA kN):=by unfold kN;exact net_ct [3] 0 5 (by decide) (by decide)
def k20St:Empty→St
 | x=>x.elim
def k20Hd:Empty→Nat
 | x=>x.elim
def k20En:Option (Empty⊕Ret):=
 br (decide (iN (List.map bA kN.bs).length<2))
 (some (.inr ([],AV.bool false)))
 (gu (ValidN kN) <|
  gu (Rows kN.nx) <|
  gu ((2:Nat)≤kN.bs.length) <|
  gu ((1:Int) * iN (List.map sA kN.ss).length≤(281474976710656:Int)) <|
  gu (iN (List.map sA kN.ss).length≤(9223372036854775807:Int)) <|
  some (.inr ([],AV.bool true)))
def k20Step:Empty→Option (Empty⊕Ret)
 | x=>x.elim
theorem k20En_ok(o:Empty⊕Ret)(h:k20En=some o):Arr Try.prog Try.f12 0 (k20St) k20Hd (zB Try.f12) [] {n:=Try.f12.ntmps,fr:=enumF 0 ([]),hp:=([])} o:=
 Scr.ok h mix (
 have c0:=kN_ct;
 .rn 2 [] [(15,AV.lst [])] [(18,hK c0 [0] [])] [] (u2 (aj (ak (u2 (u2 (aj (ak (k3 (al (c0)))) (ak (al (k2 n11))))))) (al (u2 (u2 (u2 s2)))))) <|
 .br (fun a0=>
 .rt [45] [] [] [] [] [] (aj (aj a0 s2) t2))
 (fun a0=>
 .gu fun a1=>
 .gu fun a2=>
 have c1:=n14_x a1 a2;
 have c2:=an0_x a1 a2;
 .rn 1 [44] [] [(25,hK c1 [] []),(31,hK c2 [] [])] [] (aj a0 (aj (u2 (aj (ak (aj t9 (al (c1)))) (u2 (u2 (u2 (ak (aj (k2 n11) s2))))))) (al (u2 (u2 (aj (k2 (aj t9 (aj t4 (ak (al (c2)))))) (u2 (u2 (u2 (aj (k2 (show Nat.le (nat_lit 1) [AV.agg [AV.lst (boL (kC kN)),AV.lst (List.map (iv) (kB kN)),AV.lst []]].length from(Nat.le_of_ble_eq_true rfl))) s2)))))))))) <|
 .gu fun a3=>
 have c3:=an1_x a1 a2 a3;
 have c4:=cells_ct a1;
 have c5:=n19_x a1;
 have c6:=own_x a1;
 .rn 2 [] [] [(37,hK c3 [] []),(42,hK c4 [] []),(43,hK c5 [] []),(48,hK c6 [] [])] [] (aj (u2 (u2 (aj (k2 (aj t9 (aj t4 (ak (al (c3)))))) (u2 (u2 (u2 (aj (k2 (show Nat.le (nat_lit 1) [AV.agg [AV.lst (boL (kC kN)),AV.lst (List.map (iv) (kB kN)),AV.lst [iv (0:Int)]]].length from(Nat.le_of_ble_eq_true rfl))) s2))))))) (aj (u2 (aj (ak (aj t9 (al (c4)))) (aj (k2 (al (c5))) (u2 (u2 (u2 (ak (aj (k2 n11) s2)))))))) (al (u2 (aj (ak (aj t3 (k2 (al (c6))))) (u2 (u2 (u2 (al (k2 (show Nat.le (nat_lit 1) [AV.agg [AV.lst (List.map (iv) (kO kN)),AV.lst (gL (kQ kN))]].length from(Nat.le_of_ble_eq_true rfl)))))))))))) <|
 .gu fun a4=>
 .gu fun a5=>
 have c7:=rdy1_x a1 a2 a3;
 have c8:=rel_x a1;
 have c9:=rdy2_x a1 a2 a3;
 have c10:=rdy3_x a1 a2 a3;
 .rt [] [(54,AV.lst []),(80,AV.lst []),(81,AV.lst [])] [(60,hK c7 [] []),(65,hK c8 [] []),(73,hK c9 [] []),(83,hK c10 [] [])] [] [] [] (aj (aj (u2 (u2 (u2 (aj (k2 (aj (show(0:Int)≤iN (List.map sA kN.ss).length from(Int.natCast_nonneg _)) (aj (show iN (List.map sA kN.ss).length≤iN (List.map sA kN.ss).length by omega) (aj a4 a5)))) s2)))) (aj (u2 (u2 (u2 (u2 (aj (ak (k3 (aj t9 (aj t4 (aj t3 (k2 (al (c7)))))))) (u2 (u2 (u2 (u2 s2))))))))) (aj (u2 (aj (ak (aj t3 (ak (al (c8))))) (u2 (u2 (u2 (al (k2 (show Nat.le (nat_lit 1) [AV.agg [AV.lst (List.map (iv) (kP kN)),AV.lst (gL (kQ kN))]].length from(Nat.le_of_ble_eq_true rfl))))))))) (aj (u2 (u2 (u2 (u2 (aj (ak (k3 (aj t9 (aj t4 (aj t3 (k2 (al (c9)))))))) (u2 (u2 (u2 (u2 s2))))))))) (aj (u2 (u2 (u2 (ak (u2 (u2 (aj (k5 (aj t9 (aj t4 (aj t3 (k2 (al (c10))))))) (u2 (u2 (u2 (u2 s2))))))))))) (al (u2 (u2 (u2 (aj t3 (aj t3 (aj t3 (u2 (aj t3 (aj t3 (aj t3 (u2 (aj t3 (aj t3 (aj t3 (u2 (aj t3 (aj t3 (aj t3 (u2 (aj t3 (aj t3 (aj t3 (u2 (aj t3 (aj t3 (aj t3 (u2 (aj t3 (aj t3 (u2 (aj t3 (aj t3 (aj t3 s2))))))))))))))))))))))))))))))))))))))) t2))) (by kernel_rfl)
theorem k20_ct(r:Ret)(h:MReach (k20Step) (k20En) r):CT Try.prog 12 ([]) ([]) r.1 r.2:=
 CT.mach (fn:=Try.f12) (c:=zB Try.f12) (S:=k20St) (hd:=k20Hd) Try.func12 (by kernel_rfl) (Nat.le_of_ble_eq_true rfl)
  (fun s o ho=>match s,ho with
   | x,_=>x.elim)
  (fun o ho=>k20En_ok o ho) h
theorem kn_c:CT Try.prog 12 [] [] [] (.bool true):=by
 refine k20_ct ([],_) (.val ?_)
 have h1:=kN_ok
 have h2:=kN_nb
 have h3:=h1.ln
 unfold k20En
 rw[br_f (dec_f (by rw[List.length_map];simp only[iN];omega)),gu_t h1.v,gu_t h1.rows,gu_t h2,gu_t (by rw[List.length_map];simp only[iN];omega),gu_t (by rw[List.length_map];simp only[iN];omega)]
inductive madPc where
 | l0 (v0:Int) (v1:Nat) (v2:SigD)
def madSt(l:List Int)(kk:Nat)(n:NetD):madPc→St
 | .l0 v0 v1 v2=>St.mk 58 [(0,AV.ptr 0 0 0),(3,AV.ptr 1 0 0),(4,AV.ptr 2 0 0),(5,AV.ptr 3 0 0),(7,iv v0)] [some (tapeB l v1),some (Blk.mk [netA n] 8 true true none),some (Blk.mk [AV.agg [AV.nils,AV.nils,AV.nils]] 3 true true none),some (Blk.mk [AV.agg [AV.lst (List.map AV.bool v2.cl),AV.lst (List.map (iv) v2.bw),AV.lst (List.map (iv) v2.pe)]] 3 true true none)]
def madHd:madPc→Nat
 | .l0 _ _ _=>0
def madEn(l:List Int)(kk:Nat)(n:NetD):Option (madPc⊕Ret):=
 gu (Rows n.nx) <|
 gu (kk<9223372036854775807) <|
 some (.inl (.l0 (nextZ l kk 8) (kk+1) (nsS n)))
def madS0(l:List Int)(kk:Nat)(n:NetD)(v0:Int)(v1:Nat)(v2:SigD):Option (madPc⊕Ret):=
 br (decide (0<v0))
 (gu (v1<9223372036854775807) <|
  gu (v1+1<9223372036854775807) <|
  br (nextZ l (v1+1) 4==0)
  (gu (v1+1+1<9223372036854775807) <|
   gu (Rows n.nx) <|
   br (anE n v2 (nextZ l (v1+1+1) (iN (List.map bA n.bs).length))==0)
   (some (.inl (.l0 (IntKind.i64.wrap (v0-1)) (v1+1+1+1) (anO n v2 (nextZ l (v1+1+1) (iN (List.map bA n.bs).length))))))
   (some (.inl (.l0 (IntKind.i64.wrap (v0-1)) (v1+1+1+1) v2))))
  (br (nextZ l (v1+1) 4==1)
   (gu (v1+1+1<9223372036854775807) <|
    gu (Rows n.nx) <|
    br (anE n v2 (nextZ l (v1+1+1) (iN (List.map bA n.bs).length))==0)
    (some (.inl (.l0 (IntKind.i64.wrap (v0-1)) (v1+1+1+1) (anO n v2 (nextZ l (v1+1+1) (iN (List.map bA n.bs).length))))))
    (some (.inl (.l0 (IntKind.i64.wrap (v0-1)) (v1+1+1+1) v2))))
   (br (nextZ l (v1+1) 4==2)
    (gu (v1+1+1<9223372036854775807) <|
     gu (v2.cl.length≤1000000) <|
     gu (v2.bw.length≤1000000) <|
     gu (v2.pe.length≤1000000) <|
     gu (0≤nextZ l v1 (iN (List.map AV.bool v2.cl).length)) <|
     gu (nextZ l v1 (iN (List.map AV.bool v2.cl).length)<iN v2.cl.length) <|
     gu (nextZ l v1 (iN (List.map AV.bool v2.cl).length)<iN v2.bw.length) <|
     some (.inl (.l0 (IntKind.i64.wrap (v0-1)) (v1+1+1+1) (clS v2 (nextZ l v1 (iN (List.map AV.bool v2.cl).length)) (IntKind.i64.wrap (nextZ l (v1+1+1) 4-1))))))
    (gu (v2.cl.length≤1000000) <|
     gu (v2.bw.length≤1000000) <|
     gu (v2.pe.length≤1000000) <|
     gu (0≤nextZ l v1 (iN (List.map AV.bool v2.cl).length)) <|
     gu (nextZ l v1 (iN (List.map AV.bool v2.cl).length)<iN v2.cl.length) <|
     gu (nextZ l v1 (iN (List.map AV.bool v2.cl).length)<iN v2.bw.length) <|
     some (.inl (.l0 (IntKind.i64.wrap (v0-1)) (v1+1+1) (opS v2 (nextZ l v1 (iN (List.map AV.bool v2.cl).length)))))))))
 (some (.inr ([some (Blk.mk [AV.agg [AV.lst (List.map (AV.int IntKind.i64) l),AV.int IntKind.i64 (iN v1)]] 2 true true none)],AV.agg [AV.lst (List.map AV.bool v2.cl),AV.lst (List.map (AV.int IntKind.i64) v2.bw),AV.lst (List.map (AV.int IntKind.i64) v2.pe)])))
def madStep(l:List Int)(kk:Nat)(n:NetD):madPc→Option (madPc⊕Ret)
 | .l0 v0 v1 v2=>madS0 l kk n v0 v1 v2
theorem madEn_ok(l:List Int)(kk:Nat)(n:NetD)(o:madPc⊕Ret)(h:madEn l kk n=some o):Arr Try.prog Try.f34 1 (madSt l kk n) madHd (zB Try.f34) [] {n:=Try.f34.ntmps,fr:=enumF 0 ([.ptr 0 0 0,netA n]),hp:=([some (tapeB l kk)])} o:=
 Scr.ok h mix (
 .rn 0 [] [] [] [] (al (u2 t2)) <|
 .gu fun a0=>
 have c0:=r20n_c a0;
 .rn 0 [] [] [(13,hK c0 [] [])] [] (al (u2 (aj (ak (aj t9 (al (c0)))) (u2 (u2 (u2 (ak (aj (k2 n11) s2)))))))) <|
 .gu fun a1=>
 have c1:=next_ct l (kk) (8) a1;
 .lp [] [] [(17,hK c1 [0] [])] [] [] [0,1,2,3] [0,3,4,5,7] (aj (al (u2 (aj (ak (k3 (al (c1)))) s2))) (ak t9))) (by kernel_rfl)
theorem madS0_ok(l:List Int)(kk:Nat)(n:NetD)(v0:Int)(v1:Nat)(v2:SigD)(o:madPc⊕Ret)(h:madS0 l kk n v0 v1 v2=some o):Arr Try.prog Try.f34 1 (madSt l kk n) madHd (headC Try.f34 0) (.rnd (headC Try.f34 0)::headK Try.f34 0) (madSt l kk n (.l0 v0 v1 v2)) o:=
 Scr.ok h mix (
 .rn 0 [] [] [] [] (al (u2 s2)) <|
 .br (fun a0=>
 .gu fun a1=>
 have c0:=next_ct l v1 (iN (List.map AV.bool v2.cl).length) a1;
 .rn 0 [39] [] [(26,hK c0 [0] [])] [] (aj a0 (al (u2 (u2 (u2 (u2 (aj (k5 (al (c0))) s2))))))) <|
 .gu fun a2=>
 have c1:=next_ct l (v1+1) (4) a2;
 .rn 1 [] [] [(28,hK c1 [0] [])] [] (aj (u2 (al (ak (k3 (al (c1)))))) (al (u2 s2))) <|
 .br (fun a3=>
  .gu fun a4=>
  .gu fun a5=>
  have c2:=next_ct l (v1+1+1) (iN (List.map bA n.bs).length) a4;
  have c3:=rann_c (v2.cl) (v2.bw) (v2.pe) (nextZ l (v1+1+1) (iN (List.map bA n.bs).length)) a5;
  .rn 1 [65] [] [(42,hK c2 [0] []),(43,hK c3 [] [])] [] (aj a3 (ak (aj (u2 (u2 (u2 (u2 (u2 (u2 (aj (k5 (al (c2))) (aj (k3 (aj t9 (aj t4 (ak (al (c3)))))) (u2 (u2 (u2 (ak (aj (k2 n11) s2))))))))))))) (al (u2 s2))))) <|
  .br (fun a6=>
  .lp [95] [] [] [] [] [0,1,2,3] [0,3,4,5,7] (aj (aj a6 (aj (u2 (al (k2 (show Nat.le 1 [AV.agg [AV.lst (List.map AV.bool v2.cl),AV.lst (List.map (iv) v2.bw),AV.lst (List.map (iv) v2.pe)]].length from(Nat.le_of_ble_eq_true rfl))))) (al (u2 (u2 s2))))) (ak t9)))
  (fun a6=>
  .lp [94] [] [] [] [] [0,1,2,3] [0,3,4,5,7] (aj (aj a6 (al (u2 (u2 s2)))) (ak t9))))
 (fun a3=>
  .rn 0 [64] [] [] [] (aj a3 (al (u2 s2))) <|
  .br (fun a4=>
  .gu fun a5=>
  .gu fun a6=>
  have c2:=next_ct l (v1+1+1) (iN (List.map bA n.bs).length) a5;
  have c3:=rann_c (v2.cl) (v2.bw) (v2.pe) (nextZ l (v1+1+1) (iN (List.map bA n.bs).length)) a6;
  .rn 1 [65] [] [(42,hK c2 [0] []),(43,hK c3 [] [])] [] (aj a4 (aj (u2 (u2 (u2 (u2 (u2 (u2 (aj (k5 (al (c2))) (aj (k3 (aj t9 (aj t4 (ak (al (c3)))))) (u2 (u2 (u2 (ak (aj (k2 n11) s2))))))))))))) (al (u2 s2)))) <|
  .br (fun a7=>
   .lp [95] [] [] [] [] [0,1,2,3] [0,3,4,5,7] (aj (aj a7 (aj (u2 (al (k2 (show Nat.le 1 [AV.agg [AV.lst (List.map AV.bool v2.cl),AV.lst (List.map (iv) v2.bw),AV.lst (List.map (iv) v2.pe)]].length from(Nat.le_of_ble_eq_true rfl))))) (al (u2 (u2 s2))))) (ak t9)))
  (fun a7=>
   .lp [94] [] [] [] [] [0,1,2,3] [0,3,4,5,7] (aj (aj a7 (al (u2 (u2 s2)))) (ak t9))))
  (fun a4=>
  .rn 0 [64] [] [] [] (aj a4 (al (u2 s2))) <|
  .br (fun a5=>
   .gu fun a6=>
   .gu fun a7=>
   .gu fun a8=>
   .gu fun a9=>
   .gu fun a10=>
   .gu fun a11=>
   .gu fun a12=>
   have c2:=next_ct l (v1+1+1) (4) a6;
   have c3:=rshs_c (v2.cl) (v2.bw) (v2.pe) (nextZ l v1 (iN (List.map AV.bool v2.cl).length)) (IntKind.i64.wrap (nextZ l (v1+1+1) 4-1)) a7 a8 a9 a10 a11 a12;
   .lp [99] [] [(54,hK c2 [0] []),(56,hK c3 [] [])] [] [] [0,1,2,3] [0,3,4,5,7] (aj (aj a5 (aj (u2 (u2 (u2 (aj (ak (k3 (al (c2)))) (u2 (aj (k3 (aj t4 (k2 (al (c3))))) (al (k2 (show Nat.le 1 [AV.agg [AV.lst (List.map AV.bool v2.cl),AV.lst (List.map (iv) v2.bw),AV.lst (List.map (iv) v2.pe)]].length from(Nat.le_of_ble_eq_true rfl)))))))))) (al (u2 (u2 s2))))) (ak t9)))
  (fun a5=>
   .gu fun a6=>
   .gu fun a7=>
   .gu fun a8=>
   .gu fun a9=>
   .gu fun a10=>
   .gu fun a11=>
   have c2:=rops_c (v2.cl) (v2.bw) (v2.pe) (nextZ l v1 (iN (List.map AV.bool v2.cl).length)) a6 a7 a8 a9 a10 a11;
   .lp [98] [] [(31,hK c2 [] [])] [] [] [0,1,2,3] [0,3,4,5,7] (aj (aj a5 (aj (u2 (u2 (aj (k2 (aj t4 (ak (al (c2))))) (al (k2 (show Nat.le 1 [AV.agg [AV.lst (List.map AV.bool v2.cl),AV.lst (List.map (iv) v2.bw),AV.lst (List.map (iv) v2.pe)]].length from(Nat.le_of_ble_eq_true rfl))))))) (al (u2 (u2 s2))))) (ak t9))))))
 (fun a0=>
 .rt [38] [] [] [] [0] [] (aj (aj a0 (al (u2 (al (k2 n11))))) (aj t4 t2)))) (by kernel_rfl)
theorem mad_ct(l:List Int)(kk:Nat)(n:NetD)(r:Ret)(h:MReach (madStep l kk n) (madEn l kk n) r):CT Try.prog 34 ([some (tapeB l kk)]) ([.ptr 0 0 0,netA n]) r.1 r.2:=
 CT.mach (fn:=Try.f34) (c:=zB Try.f34) (S:=madSt l kk n) (hd:=madHd) Try.func34 (by kernel_rfl) (Nat.le_of_ble_eq_true rfl)
  (fun s o ho=>match s,ho with
   | .l0 v0 v1 v2,ho=>madS0_ok l kk n v0 v1 v2 o ho
  )
  (fun o ho=>madEn_ok l kk n o ho) h
theorem wrD{a:Int}(h1:0≤a)(h2:a≤1000):IntKind.i64.wrap (a-1)=a-1:=wrap_in (by omega) (by omega)
theorem mad_go{l:List Int}{kk:Nat}{n:NetD}(hv:ValidN n)(hrw:Rows n.nx):∀(j k1:Nat) (s:SigD),j≤8→k1+4 * j≤1000000→SigOk n s→
  ∃(s':SigD) (k2:Nat),SigOk n s'∧k2≤k1+4 * j∧MReach (madStep l kk n) (some (.inl (.l0 (j:Int) k1 s))) ([some (tapeB l k2)],sgA s'):=by
 have hcel:=celN_le hv
 have h24:=hv.nb24
 intro j
 induction j with
 | zero=>
  intro k1 s _ _ hs
  refine⟨s,k1,hs,by omega,.to (show madS0 l kk n _ k1 s=_ from ?_) (.ret _)⟩
  unfold madS0
  rw[br_f (dec_f (by omega))];rfl
 | succ j ih=>
  intro k1 s hj hk hs
  have lc:=hs.lc
  have lb:=hs.lb
  have pl:=hs.pl
  have hdec:IntKind.i64.wrap (((j+1:Nat):Int)-1)=(j:Int):=by rw[wrD (by omega) (by omega)];omega
  have r1:=nextZ_rng l k1 (iN (List.map AV.bool s.cl).length) (by rw[List.length_map];simp only[iN];omega) (by rw[List.length_map];simp only[iN];omega)
  have r2:=nextZ_rng l (k1+1+1) 4 (by omega) (by omega)
  have hx:nextZ l k1 (iN (List.map AV.bool s.cl).length)<iN s.cl.length:=by have:=r1.2;rw[List.length_map] at this ⊢;exact this
  have hstep:∃(s2:SigD) (k2:Nat),SigOk n s2∧k2≤k1+3∧madS0 l kk n ((j+1:Nat):Int) k1 s=some (.inl (.l0 (j:Int) k2 s2)):=by
   unfold madS0
   rw[br_t (dec_t (by omega)),gu_t (by omega),gu_t (by omega)]
   have hann:∀{x:Int},∃(s2:SigD) (k2:Nat),SigOk n s2∧k2≤k1+3∧(gu (k1+1+1<9223372036854775807) <| gu (Rows n.nx) <|
     br (anE n s x==0) (some (.inl (.l0 (IntKind.i64.wrap (((j+1:Nat):Int)-1)) (k1+1+1+1) (anO n s x)))) (some (.inl (.l0 (IntKind.i64.wrap (((j+1:Nat):Int)-1)) (k1+1+1+1) s))):Option (madPc⊕Ret))=some (.inl (.l0 (j:Int) k2 s2)):=by
    intro x
    rw[gu_t (by omega),gu_t hrw,hdec]
    by_cases h0:anE n s x=0
    ·refine⟨anO n s x,k1+1+1+1,?_,by omega,by rw[br_t (beq_iff_eq.2 h0)]⟩
     obtain⟨_,hx,hsh⟩:=anE_ok h0
     have hg:=shtS_get hv hs x.toNat
     rw[hsh,Int.toNat_of_nonneg hx.1] at hg
     have hg2:=hg.symm
     rw[Bool.or_eq_false_iff] at hg2
     unfold anO
     rw[if_pos h0]
     exact anS_ok hs hx hg2.1 fun hm=>by rw[hasZ_iff.2 hm] at hg2;cases hg2.2
    ·exact⟨s,k1+1+1+1,hs,by omega,by rw[br_f (beq_eq_false_iff_ne.2 h0)]⟩
   cases e1:nextZ l (k1+1) 4==0 with
   | true=>rw[br_t rfl];exact hann
   | false=>
   rw[br_f rfl]
   cases e2:nextZ l (k1+1) 4==1 with
   | true=>rw[br_t rfl];exact hann
   | false=>
   rw[br_f rfl]
   cases e3:nextZ l (k1+1) 4==2 with
   | true=>
    refine⟨clS s (nextZ l k1 (iN (List.map AV.bool s.cl).length)) (nextZ l (k1+1+1) 4-1),k1+1+1+1,clS_ok hs ⟨r1.1,by simp only[iN] at hx ⊢;omega⟩ ⟨by omega,by omega⟩,by omega,?_⟩
    rw[br_t rfl,gu_t (by omega),gu_t (by omega),gu_t (by omega),gu_t (by omega),gu_t r1.1,gu_t hx,gu_t (by rw[lb,←lc];exact hx),hdec,wrD r2.1 (by omega)]
   | false=>
    refine⟨opS s (nextZ l k1 (iN (List.map AV.bool s.cl).length)),k1+1+1,opS_ok hs ⟨r1.1,by simp only[iN] at hx ⊢;omega⟩,by omega,?_⟩
    rw[br_f rfl,gu_t (by omega),gu_t (by omega),gu_t (by omega),gu_t r1.1,gu_t hx,gu_t (by rw[lb,←lc];exact hx),hdec]
  obtain⟨s2,k2,ok2,hk2,he⟩:=hstep
  obtain⟨s',k',ok',hk',hm⟩:=ih k2 s2 (by omega) (by omega) ok2
  exact⟨s',k',ok',by omega,.to he hm⟩
theorem mad_exP(l:List Int)(kk:Nat)(n:NetD):∃p:SigD×Nat,ValidN n→Rows n.nx→kk≤5000→SigOk n p.1∧p.2≤kk+40∧CT Try.prog 34 [some (tapeB l kk)] [.ptr 0 0 0,netA n] [some (tapeB l p.2)] (sgA p.1):=by
 by_cases h:ValidN n∧Rows n.nx∧kk≤5000
 ·obtain⟨hv,hrw,hk⟩:=h
  have r:=nextZ_rng l kk 8 (by omega) (by omega)
  obtain⟨j,hj⟩:∃j:Nat,nextZ l kk 8=(j:Int):=⟨(nextZ l kk 8).toNat,by omega⟩
  have e1:nsS n=newS n:=by unfold nsS;rw[valB_iff.2 hv];rfl
  obtain⟨s',k',ok',hk',hm⟩:=mad_go (l:=l) (kk:=kk) hv hrw j (kk+1) (newS n) (by omega) (by omega) (newS_ok n)
  refine⟨(s',k'),fun _ _ _=>⟨ok',by show k'≤_;omega,?_⟩⟩
  refine mad_ct l kk n ([_],_) ?_
  unfold madEn
  rw[gu_t hrw,gu_t (by omega),e1,hj]
  exact hm
 ·exact⟨(⟨[],[],[]⟩,0),fun a b c=>absurd ⟨a,b,c⟩ h⟩
@[irreducible] def mdS(l:List Int)(kk:Nat)(n:NetD):SigD:=(Classical.choose (mad_exP l kk n)).1
@[irreducible] def mdK(l:List Int)(kk:Nat)(n:NetD):Nat:=(Classical.choose (mad_exP l kk n)).2
theorem md_spec{l:List Int}{kk:Nat}{n:NetD}(hv:ValidN n)(hrw:Rows n.nx)(hk:kk≤5000):SigOk n (mdS l kk n)∧mdK l kk n≤kk+40∧CT Try.prog 34 [some (tapeB l kk)] [.ptr 0 0 0,netA n] [some (tapeB l (mdK l kk n))] (sgA (mdS l kk n)):=by
 unfold mdS mdK;exact Classical.choose_spec (mad_exP l kk n) hv hrw hk
theorem md_c(l:List Int)(kk:Nat)(n:NetD)(hv:ValidN n)(hrw:Rows n.nx)(hk:kk≤5000):CT Try.prog 34 [some (tapeB l kk)] [.ptr 0 0 0,netA n] [some (tapeB l (mdK l kk n))] (sgA ⟨(mdS l kk n).cl,(mdS l kk n).bw,(mdS l kk n).pe⟩):=(md_spec hv hrw hk).2.2
def muA(n:Nat→Bool)(b:Nat→Bool)(k:Int):mutPc:=.l1 k (n 0) (n 1) (n 2) (n 3) (n 4) (n 5) (n 6) (n 7) (n 8) (n 9) (n 10) (n 11) (n 12) (n 13) (n 14) (n 15) (n 16) (n 17) (n 18) (n 19) (n 20) (n 21) (n 22) (n 23) (b 0) (b 1) (b 2) (b 3) (b 4) (b 5) (b 6) (b 7) (b 8) (b 9) (b 10) (b 11) (b 12) (b 13) (b 14) (b 15) (b 16) (b 17) (b 18) (b 19) (b 20) (b 21) (b 22) (b 23)
theorem mut_c{g:List (List Int)}{s:List Bool}(hrw:Rows g):CT Try.prog 36 [] [.lst (gL g),.lst (boL s)] [] (.tup [.bool (muB g s),.int .i64 (chk4 g s)]):=by
 refine mut_ct g s ([],_) ?_
 unfold mutEn
 rw[gu_t hrw,chk4_val]
 have hlg:=gL_len g
 have hlb:=boL_len s
 cases hv:valZ g with
 | false=>
  have:rvE g=20:=by unfold rvE;rw[hv];rfl
  rw[this,if_neg (by simp),muB_f (fun h=>by have:=h.1;rw[chk4_val,hv] at this;cases this)]
  exact .ret _
 | true=>
  have hE:rvE g=0:=by unfold rvE;rw[if_pos hv]
  have hO:rvO g=revG g:=by unfold rvO;rw[if_pos hv]
  rw[hE,br_f (by rfl),if_pos rfl]
  by_cases hl:s.length≠g.length
  ·rw[br_t (bne_iff_ne.2 (by rw[hlb,hlg];simp only[iN];omega)),if_pos hl,muB_f (fun h=>by have:=h.1;rw[chk4_val,if_pos hv,if_pos hl] at this;cases this)]
   exact .ret _
  rw[br_f (by rw[hlb,hlg];simp only[Decidable.not_not] at hl;rw[hl];simp),if_neg hl]
  have hl:s.length=g.length:=by omega
  have hc:chk4 g s=0:=by rw[chk4_val,if_pos hv,if_neg (by omega)]
  have hg:=val_gok hrw hv
  have hg2:=revG_gok hrw hv
  have hrl:(revG g).length=g.length:=revI_len g _
  have h24:=hg.len
  have key:∀(j k:Nat),k+j=g.length→(∀v,v<k→s.getD v true=true)→MReach (mutStep g s) (some (.inl (.l0 (k:Int)))) (([],.tup [.bool (muB g s),.int .i64 0]):Ret):=by
   intro j
   induction j with
   | zero=>
    intro k hk hall
    refine .to (show mutS0 g s k=some (.inr ([],.tup [.bool false,.int .i64 0])) from ?_) ?_
    ·unfold mutS0;rw[br_f (dec_f (by rw[hlb];simp only[iN];omega))]
    ·rw[muB_f fun⟨_,⟨v,hv⟩,_⟩=>by rw[hall v (by have:=opn_lt hv;omega)] at hv;cases hv]
     exact .ret _
   | succ j ih=>
    intro k hk hall
    have hkl:k<s.length:=by omega
    have hsk:=getE true hkl
    have wk:=zW k (by omega)
    cases hso:s.getD k true with
    | true=>
     refine .to (show mutS0 g s k=some (.inl (.l0 ((k+1:Nat):Int))) from ?_) (ih (k+1) (by omega) fun v hv=>?_)
     ·unfold mutS0
      rw[br_t (dec_t (by rw[hlb];simp only[iN];omega)),gu_t (by omega),Int.toNat_natCast,el_t hsk,hso,br_t rfl,wk]
     ·rcases Nat.lt_or_ge v k with h | h
      ·exact hall v h
      ·have:v=k:=by omega
       subst this;exact hso
    | false=>
     refine .to (show mutS0 g s k=some (.inl (muA (mkB g s k) (mkB (revG g) s k) 0)) from ?_) ?_
     ·unfold mutS0
      rw[br_t (dec_t (by rw[hlb];simp only[iN];omega)),gu_t (by omega),Int.toNat_natCast,el_t hsk,hso,br_f rfl,gu_t hg,gu_t hl,gu_t ⟨by omega,by simp only[iN];omega⟩,hO,gu_t hg2,gu_t (by omega),gu_t ⟨by omega,by simp only[iN];omega⟩]
      rfl
     have inner:∀(i q:Nat),q+i=g.length→(∀w,w<q→s.getD w true=false→Rcv g s k w∧Rcv g s w k)→MReach (mutStep g s) (some (.inl (muA (mkB g s k) (mkB (revG g) s k) (q:Int)))) (([],.tup [.bool (muB g s),.int .i64 0]):Ret):=by
      intro i
      induction i with
      | zero=>
       intro q hq hok
       refine .to (show mutS1 g s q (mkB g s k 0) (mkB g s k 1) (mkB g s k 2) (mkB g s k 3) (mkB g s k 4) (mkB g s k 5) (mkB g s k 6) (mkB g s k 7) (mkB g s k 8) (mkB g s k 9) (mkB g s k 10) (mkB g s k 11) (mkB g s k 12) (mkB g s k 13) (mkB g s k 14) (mkB g s k 15) (mkB g s k 16) (mkB g s k 17) (mkB g s k 18) (mkB g s k 19) (mkB g s k 20) (mkB g s k 21) (mkB g s k 22) (mkB g s k 23) (mkB (revG g) s k 0) (mkB (revG g) s k 1) (mkB (revG g) s k 2) (mkB (revG g) s k 3) (mkB (revG g) s k 4) (mkB (revG g) s k 5) (mkB (revG g) s k 6) (mkB (revG g) s k 7) (mkB (revG g) s k 8) (mkB (revG g) s k 9) (mkB (revG g) s k 10) (mkB (revG g) s k 11) (mkB (revG g) s k 12) (mkB (revG g) s k 13) (mkB (revG g) s k 14) (mkB (revG g) s k 15) (mkB (revG g) s k 16) (mkB (revG g) s k 17) (mkB (revG g) s k 18) (mkB (revG g) s k 19) (mkB (revG g) s k 20) (mkB (revG g) s k 21) (mkB (revG g) s k 22) (mkB (revG g) s k 23)=some (.inr ([],.tup [.bool true,.int .i64 0])) from ?_) ?_
       ·unfold mutS1
        rw[br_f (dec_f (by rw[hlb];simp only[iN];omega))]
       ·rw[muB_t ⟨hc,⟨k,hso⟩,fun v w hv hw=>(hok v (by have:=opn_lt hv;omega) hv).2.trans (hok w (by have:=opn_lt hw;omega) hw).1⟩]
        exact .ret _
      | succ i ihi=>
       intro q hq hok
       have hql:q<s.length:=by omega
       have hsq:=getE true hql
       have wq:=zW q (by omega)
       have ga:=arr_get (mkB g s k) (k:=q) (by omega)
       have gb:=arr_get (mkB (revG g) s k) (k:=q) (by omega)
       have nxt:(s.getD q true=false→Rcv g s k q∧Rcv g s q k)→∀w,w<q+1→s.getD w true=false→Rcv g s k w∧Rcv g s w k:=fun h w hw ho=>by
        rcases Nat.lt_or_ge w q with h1 | h1
        ·exact hok w h1 ho
        ·have:w=q:=by omega
         subst this;exact h ho
       cases hsqo:s.getD q true with
       | true=>
        refine .to (show mutS1 g s q (mkB g s k 0) (mkB g s k 1) (mkB g s k 2) (mkB g s k 3) (mkB g s k 4) (mkB g s k 5) (mkB g s k 6) (mkB g s k 7) (mkB g s k 8) (mkB g s k 9) (mkB g s k 10) (mkB g s k 11) (mkB g s k 12) (mkB g s k 13) (mkB g s k 14) (mkB g s k 15) (mkB g s k 16) (mkB g s k 17) (mkB g s k 18) (mkB g s k 19) (mkB g s k 20) (mkB g s k 21) (mkB g s k 22) (mkB g s k 23) (mkB (revG g) s k 0) (mkB (revG g) s k 1) (mkB (revG g) s k 2) (mkB (revG g) s k 3) (mkB (revG g) s k 4) (mkB (revG g) s k 5) (mkB (revG g) s k 6) (mkB (revG g) s k 7) (mkB (revG g) s k 8) (mkB (revG g) s k 9) (mkB (revG g) s k 10) (mkB (revG g) s k 11) (mkB (revG g) s k 12) (mkB (revG g) s k 13) (mkB (revG g) s k 14) (mkB (revG g) s k 15) (mkB (revG g) s k 16) (mkB (revG g) s k 17) (mkB (revG g) s k 18) (mkB (revG g) s k 19) (mkB (revG g) s k 20) (mkB (revG g) s k 21) (mkB (revG g) s k 22) (mkB (revG g) s k 23)=some (.inl (muA (mkB g s k) (mkB (revG g) s k) ((q+1:Nat):Int))) from ?_) (ihi (q+1) (by omega) (nxt fun h=>by rw[hsqo] at h;cases h))
        unfold mutS1
        rw[br_t (dec_t (by rw[hlb];simp only[iN];omega)),gu_t (by omega),Int.toNat_natCast,el_t hsq,hsqo,br_f (by rfl),wq];rfl
       | false=>
        cases hm:mkB g s k q with
        | false=>
         refine .to (show mutS1 g s q (mkB g s k 0) (mkB g s k 1) (mkB g s k 2) (mkB g s k 3) (mkB g s k 4) (mkB g s k 5) (mkB g s k 6) (mkB g s k 7) (mkB g s k 8) (mkB g s k 9) (mkB g s k 10) (mkB g s k 11) (mkB g s k 12) (mkB g s k 13) (mkB g s k 14) (mkB g s k 15) (mkB g s k 16) (mkB g s k 17) (mkB g s k 18) (mkB g s k 19) (mkB g s k 20) (mkB g s k 21) (mkB g s k 22) (mkB g s k 23) (mkB (revG g) s k 0) (mkB (revG g) s k 1) (mkB (revG g) s k 2) (mkB (revG g) s k 3) (mkB (revG g) s k 4) (mkB (revG g) s k 5) (mkB (revG g) s k 6) (mkB (revG g) s k 7) (mkB (revG g) s k 8) (mkB (revG g) s k 9) (mkB (revG g) s k 10) (mkB (revG g) s k 11) (mkB (revG g) s k 12) (mkB (revG g) s k 13) (mkB (revG g) s k 14) (mkB (revG g) s k 15) (mkB (revG g) s k 16) (mkB (revG g) s k 17) (mkB (revG g) s k 18) (mkB (revG g) s k 19) (mkB (revG g) s k 20) (mkB (revG g) s k 21) (mkB (revG g) s k 22) (mkB (revG g) s k 23)=some (.inr ([],.tup [.bool false,.int .i64 0])) from ?_) ?_
         ·unfold mutS1
          rw[br_t (dec_t (by rw[hlb];simp only[iN];omega)),gu_t (by omega),Int.toNat_natCast,el_t hsq,hsqo,br_t (by rfl),gu_t (by omega),el_t ga,hm,br_t (by rfl)]
         ·rw[muB_f fun h=>by
           have:=mkB_iff.2 (h.2.2 k q hso hsqo)
           rw[hm] at this;cases this]
          exact .ret _
        | true=>
         cases hm2:mkB (revG g) s k q with
         | false=>
          refine .to (show mutS1 g s q (mkB g s k 0) (mkB g s k 1) (mkB g s k 2) (mkB g s k 3) (mkB g s k 4) (mkB g s k 5) (mkB g s k 6) (mkB g s k 7) (mkB g s k 8) (mkB g s k 9) (mkB g s k 10) (mkB g s k 11) (mkB g s k 12) (mkB g s k 13) (mkB g s k 14) (mkB g s k 15) (mkB g s k 16) (mkB g s k 17) (mkB g s k 18) (mkB g s k 19) (mkB g s k 20) (mkB g s k 21) (mkB g s k 22) (mkB g s k 23) (mkB (revG g) s k 0) (mkB (revG g) s k 1) (mkB (revG g) s k 2) (mkB (revG g) s k 3) (mkB (revG g) s k 4) (mkB (revG g) s k 5) (mkB (revG g) s k 6) (mkB (revG g) s k 7) (mkB (revG g) s k 8) (mkB (revG g) s k 9) (mkB (revG g) s k 10) (mkB (revG g) s k 11) (mkB (revG g) s k 12) (mkB (revG g) s k 13) (mkB (revG g) s k 14) (mkB (revG g) s k 15) (mkB (revG g) s k 16) (mkB (revG g) s k 17) (mkB (revG g) s k 18) (mkB (revG g) s k 19) (mkB (revG g) s k 20) (mkB (revG g) s k 21) (mkB (revG g) s k 22) (mkB (revG g) s k 23)=some (.inr ([],.tup [.bool false,.int .i64 0])) from ?_) ?_
          ·unfold mutS1
           rw[br_t (dec_t (by rw[hlb];simp only[iN];omega)),gu_t (by omega),Int.toNat_natCast,el_t hsq,hsqo,br_t (by rfl),gu_t (by omega),el_t ga,hm,br_f (by rfl),el_t gb,hm2,br_t (by rfl)]
          ·rw[muB_f fun h=>by
            have:=mkB_iff.2 (rcv_vre hg (h.2.2 q k hsqo hso))
            rw[hm2] at this;cases this]
           exact .ret _
         | true=>
          refine .to (show mutS1 g s q (mkB g s k 0) (mkB g s k 1) (mkB g s k 2) (mkB g s k 3) (mkB g s k 4) (mkB g s k 5) (mkB g s k 6) (mkB g s k 7) (mkB g s k 8) (mkB g s k 9) (mkB g s k 10) (mkB g s k 11) (mkB g s k 12) (mkB g s k 13) (mkB g s k 14) (mkB g s k 15) (mkB g s k 16) (mkB g s k 17) (mkB g s k 18) (mkB g s k 19) (mkB g s k 20) (mkB g s k 21) (mkB g s k 22) (mkB g s k 23) (mkB (revG g) s k 0) (mkB (revG g) s k 1) (mkB (revG g) s k 2) (mkB (revG g) s k 3) (mkB (revG g) s k 4) (mkB (revG g) s k 5) (mkB (revG g) s k 6) (mkB (revG g) s k 7) (mkB (revG g) s k 8) (mkB (revG g) s k 9) (mkB (revG g) s k 10) (mkB (revG g) s k 11) (mkB (revG g) s k 12) (mkB (revG g) s k 13) (mkB (revG g) s k 14) (mkB (revG g) s k 15) (mkB (revG g) s k 16) (mkB (revG g) s k 17) (mkB (revG g) s k 18) (mkB (revG g) s k 19) (mkB (revG g) s k 20) (mkB (revG g) s k 21) (mkB (revG g) s k 22) (mkB (revG g) s k 23)=some (.inl (muA (mkB g s k) (mkB (revG g) s k) ((q+1:Nat):Int))) from ?_) (ihi (q+1) (by omega) (nxt fun _=>⟨mkB_iff.1 hm,rcv_rev hg (mkB_iff.1 hm2)⟩))
          unfold mutS1
          rw[br_t (dec_t (by rw[hlb];simp only[iN];omega)),gu_t (by omega),Int.toNat_natCast,el_t hsq,hsqo,br_t (by rfl),gu_t (by omega),el_t ga,hm,br_f (by rfl),el_t gb,hm2,br_f (by rfl),wq];rfl
     exact inner g.length 0 (by omega) fun w hw=>absurd hw (Nat.not_lt_zero _)
  exact key g.length 0 (by omega) fun v h=>absurd h (Nat.not_lt_zero _)
theorem mut_e(g:List (List Int))(s:List Bool)(hrw:Rows g):CT Try.prog 36 [] [.lst (gL g),.lst (boL s)] [] (.tup [.bool (muB g s),.int .i64 (chk4 g s)]):=mut_c hrw
inductive ssoPc where
 | l0 (v0:List Bool) (v1:Int)
def ssoSt(ls:List Int):ssoPc→St
 | .l0 v0 v1=>St.mk 131 [(4,AV.ptr 0 0 0),(5,AV.ptr 1 0 0),(6,AV.lst (boL (soO (netM ls 0 8) (mdS ls (netK ls 0 8) (netM ls 0 8))))),(8,AV.lst (boL (shO (netM ls 0 8) (mdS ls (netK ls 0 8) (netM ls 0 8))))),(10,AV.bool (muB (netM ls 0 8).nx (List.take ((List.map bA (netM ls 0 8).bs).length-Int.toNat 0) (List.drop (Int.toNat 0) (shO (netM ls 0 8) (mdS ls (netK ls 0 8) (netM ls 0 8))))))),(12,AV.sl 2 0 v0.length),(13,iv v1)] [some (Blk.mk [netA (netM ls 0 8)] 8 true true none),some (Blk.mk [AV.agg [AV.lst (boL (mdS ls (netK ls 0 8) (netM ls 0 8)).cl),AV.lst (List.map (iv) (mdS ls (netK ls 0 8) (netM ls 0 8)).bw),AV.lst (List.map (iv) (mdS ls (netK ls 0 8) (netM ls 0 8)).pe)]] 3 true true none),some (Blk.mk (List.map AV.bool v0) 1 true true none)]
def ssoHd:ssoPc→Nat
 | .l0 _ _=>0
def ssoEn(ls:List Int):Option (ssoPc⊕Ret):=
 gu (ValidN (netM ls 0 8)) <|
 gu (Rows (netM ls 0 8).nx) <|
 gu (netK ls 0 8≤5000) <|
 br (shE (netM ls 0 8) (mdS ls (netK ls 0 8) (netM ls 0 8)) != 0)
 (some (.inr ([],AV.bool false)))
 (br (iN (boL (soO (netM ls 0 8) (mdS ls (netK ls 0 8) (netM ls 0 8)))).length != iN (List.map bA (netM ls 0 8).bs).length)
  (some (.inr ([],AV.bool false)))
  (br (iN (boL (shO (netM ls 0 8) (mdS ls (netK ls 0 8) (netM ls 0 8)))).length != iN (boL (mdS ls (netK ls 0 8) (netM ls 0 8)).cl).length)
   (some (.inr ([],AV.bool false)))
   (gu (∀(e:AV),e∈boL (shO (netM ls 0 8) (mdS ls (netK ls 0 8) (netM ls 0 8)))→e.cells.length=1) <|
    gu (iN (List.map bA (netM ls 0 8).bs).length≤iN (boL (shO (netM ls 0 8) (mdS ls (netK ls 0 8) (netM ls 0 8)))).length) <|
    br (chk4 (netM ls 0 8).nx (List.take ((List.map bA (netM ls 0 8).bs).length-Int.toNat 0) (List.drop (Int.toNat 0) (shO (netM ls 0 8) (mdS ls (netK ls 0 8) (netM ls 0 8))))) != 0)
    (some (.inr ([],AV.bool false)))
    (gu (1 * iN (List.map bA (netM ls 0 8).bs).length≤281474976710656) <|
     gu (iN (List.map bA (netM ls 0 8).bs).length≤9223372036854775807) <|
     some (.inl (.l0 (List.replicate (List.map bA (netM ls 0 8).bs).length false) ((0:Int))))))))
def ssoS0(ls:List Int)(v0:List Bool)(v1:Int):Option (ssoPc⊕Ret):=
 br (decide (v1<iN (List.map bA (netM ls 0 8).bs).length))
 (gu (0≤v1) <|
  el (soO (netM ls 0 8) (mdS ls (netK ls 0 8) (netM ls 0 8))) (v1.toNat) fun(x86:Bool)=>
  br x86
  (el ((mdS ls (netK ls 0 8) (netM ls 0 8)).cl) (v1.toNat) fun(x92:Bool)=>
   br x92
   (some (.inr ([],AV.bool false)))
   (el (shO (netM ls 0 8) (mdS ls (netK ls 0 8) (netM ls 0 8))) (v1.toNat) fun(x98:Bool)=>
    br (!x98)
    (el (soO (netM ls 0 8) (mdS ls (netK ls 0 8) (netM ls 0 8))) (v1.toNat) fun(x104:Bool)=>
     br (!x104)
     (some (.inr ([],AV.bool false)))
     (el (soO (netM ls 0 8) (mdS ls (netK ls 0 8) (netM ls 0 8))) (v1.toNat) fun(x113:Bool)=>
      gu (v1<iN v0.length) <|
      gu ((0+v1.toNat).succ.le (List.map AV.bool v0).length) <|
      some (.inl (.l0 (v0.set (0+v1.toNat) !x113) (IntKind.i64.wrap (v1+1))))))
    (el (soO (netM ls 0 8) (mdS ls (netK ls 0 8) (netM ls 0 8))) (v1.toNat) fun(x113:Bool)=>
     gu (v1<iN v0.length) <|
     gu ((0+v1.toNat).succ.le (List.map AV.bool v0).length) <|
     some (.inl (.l0 (v0.set (0+v1.toNat) !x113) (IntKind.i64.wrap (v1+1)))))))
  (el (shO (netM ls 0 8) (mdS ls (netK ls 0 8) (netM ls 0 8))) (v1.toNat) fun(x98:Bool)=>
   br (!x98)
   (el (soO (netM ls 0 8) (mdS ls (netK ls 0 8) (netM ls 0 8))) (v1.toNat) fun(x104:Bool)=>
    br (!x104)
    (some (.inr ([],AV.bool false)))
    (el (soO (netM ls 0 8) (mdS ls (netK ls 0 8) (netM ls 0 8))) (v1.toNat) fun(x113:Bool)=>
     gu (v1<iN v0.length) <|
     gu ((0+v1.toNat).succ.le (List.map AV.bool v0).length) <|
     some (.inl (.l0 (v0.set (0+v1.toNat) !x113) (IntKind.i64.wrap (v1+1))))))
   (el (soO (netM ls 0 8) (mdS ls (netK ls 0 8) (netM ls 0 8))) (v1.toNat) fun(x113:Bool)=>
    gu (v1<iN v0.length) <|
    gu ((0+v1.toNat).succ.le (List.map AV.bool v0).length) <|
    some (.inl (.l0 (v0.set (0+v1.toNat) !x113) (IntKind.i64.wrap (v1+1)))))))
 (br (!muB (netM ls 0 8).nx (List.take ((List.map bA (netM ls 0 8).bs).length-Int.toNat 0) (List.drop (Int.toNat 0) (shO (netM ls 0 8) (mdS ls (netK ls 0 8) (netM ls 0 8))))))
  (some (.inr ([],AV.bool true)))
  (gu (Rows (netM ls 0 8).nx) <|
   br (chk4 (netM ls 0 8).nx v0==0)
   (some (.inr ([],AV.bool (muB (netM ls 0 8).nx v0))))
   (some (.inr ([],AV.bool false)))))
def ssoStep(ls:List Int):ssoPc→Option (ssoPc⊕Ret)
 | .l0 v0 v1=>ssoS0 ls v0 v1
theorem ssoEn_ok(ls:List Int)(o:ssoPc⊕Ret)(h:ssoEn ls=some o):Arr Try.prog Try.f8 0 (ssoSt ls) ssoHd (zB Try.f8) [] {n:=Try.f8.ntmps,fr:=enumF 0 ([lI ls]),hp:=([])} o:=
 Scr.ok h mix (
 have c0:=kn_c;
 have c1:=net_ct (ls) (0) (8) (show nat_lit 0≤(5000:Nat) from(by first | exact Nat.le_of_ble_eq_true rfl | decide)) (show(1:Int)≤(8:Int)∧(8:Int)≤(20:Int) from ⟨(by first | exact Nat.le_of_ble_eq_true rfl | decide),(by first | exact Nat.le_of_ble_eq_true rfl | decide)⟩);
 .rn 3 [] [] [(16,hK c0 [] []),(22,hK c1 [0] [])] [] (u2 (aj (aj (al (c0)) s2) (ak (aj (u2 (u2 (u2 s2))) (al (u2 (aj (ak (k3 (al (c1)))) (ak (al (k2 n11)))))))))) <|
 .gu fun a0=>
 .gu fun a1=>
 .gu fun a2=>
 have c2:=md_c (ls) (netK ls 0 8) (netM ls 0 8) a0 a1 a2;
 have c3:=so_c ((mdS ls (netK ls 0 8) (netM ls 0 8)).cl) ((mdS ls (netK ls 0 8) (netM ls 0 8)).bw) ((mdS ls (netK ls 0 8) (netM ls 0 8)).pe) a1;
 have c4:=ssh_c ((mdS ls (netK ls 0 8) (netM ls 0 8)).cl) ((mdS ls (netK ls 0 8) (netM ls 0 8)).bw) ((mdS ls (netK ls 0 8) (netM ls 0 8)).pe) a1;
 .rn 2 [] [] [(25,hK c2 [0] []),(29,hK c3 [] []),(35,hK c4 [] [])] [] (aj (u2 (u2 (aj (k3 (aj t9 (ak (al (c2))))) (ak (al (k2 n11)))))) (aj (u2 (u2 (aj (k2 (aj t9 (aj t4 (al (c3))))) (u2 (u2 (u2 (u2 s2))))))) (al (u2 (u2 (aj (k2 (aj t9 (aj t4 (al (c4))))) (u2 (u2 (u2 (u2 s2)))))))))) <|
 .br (fun a3=>
 .rt [81] [] [] [] [] [] (aj (aj (u2 (u2 (u2 (aj a3 (aj a3 (ag a3 (u2 (ak (k5 (aj t3 (u2 (ak (k5 (al t3)))))))))))))) (ak s2)) t2))
 (fun a3=>
 .br (fun a4=>
  .rt [80,88,105] [] [] [] [] [] (aj (aj (u2 (u2 (u2 (ag a3 (ag a3 (ag a3 (u2 (ag a3 (ag a3 (ag a3 (ag a3 (ag a3 (aj (aj a3 t3) (ag a3 (u2 (aj a4 (aj a4 (aj a4 (aj a4 (aj a4 (aj a4 (al (aj a4 t2))))))))))))))))))))))) (ak s2)) t2))
 (fun a4=>
  .rn 0 [80,88,104] [] [] [] (al (u2 (u2 (u2 (ag a3 (ag a3 (ag a3 (u2 (ag a3 (ag a3 (ag a3 (ag a3 (ag a3 (aj (aj a3 t3) (ag a3 (u2 (ag a4 (ag a4 (ag a4 (ag a4 (ag a4 (aj (aj a4 t3) (al (aj a4 t2)))))))))))))))))))))))) <|
  .br (fun a5=>
  .rt [80,88,104,119] [] [] [] [] [] (aj (aj a5 s2) t2))
  (fun a5=>
  .gu fun a6=>
  .gu fun a7=>
  have c5:=mut_e ((netM ls 0 8).nx) (List.take ((List.map bA (netM ls 0 8).bs).length-Int.toNat 0) (List.drop (Int.toNat 0) (shO (netM ls 0 8) (mdS ls (netK ls 0 8) (netM ls 0 8))))) a1;
  .rn 1 [80,88,104,118] [] [(68,hK c5 [] [])] [] (aj a5 (aj (u2 (u2 (u2 (u2 (u2 (u2 (aj (k2 (aj a6 (aj (show(0:Int)≤(0:Int) from(by first | exact Nat.le_of_ble_eq_true rfl | decide)) (aj (show 0≤iN (List.map bA (netM ls 0 8).bs).length from(Int.natCast_nonneg _)) (aj a7 (show iN (boL (shO (netM ls 0 8) (mdS ls (netK ls 0 8) (netM ls 0 8)))).length≤iN (boL (shO (netM ls 0 8) (mdS ls (netK ls 0 8) (netM ls 0 8)))).length by omega)))))) (aj (ak (k3 (al (show CT Try.prog 36 [] [AV.lst (gL (netM ls 0 8).nx),AV.lst (List.take ((List.map bA (netM ls 0 8).bs).length-Int.toNat 0) (List.drop (Int.toNat 0) (boL (shO (netM ls 0 8) (mdS ls (netK ls 0 8) (netM ls 0 8))))))] [] (AV.tup [AV.bool (muB (netM ls 0 8).nx (List.take ((List.map bA (netM ls 0 8).bs).length-Int.toNat 0) (List.drop (Int.toNat 0) (shO (netM ls 0 8) (mdS ls (netK ls 0 8) (netM ls 0 8)))))),iv (chk4 (netM ls 0 8).nx (List.take ((List.map bA (netM ls 0 8).bs).length-Int.toNat 0) (List.drop (Int.toNat 0) (shO (netM ls 0 8) (mdS ls (netK ls 0 8) (netM ls 0 8))))))]) from CT.eqs (c5) (by first | (simp only[boL,List.map_append,List.map_set,List.map_take,List.map_drop,List.map_replicate,List.nil_append];done) | (simp only[boL,List.map_append,List.map_set,List.map_take,List.map_drop,List.map_replicate,List.nil_append];rfl) | (simp[gL,boL,lI,sA,bA];done) | (simp[gL,boL,lI,sA,bA];rfl) | (simp only[netA,List.map_append,List.map_set,List.map_cons,List.map_nil];rfl)) (by first | (simp only[boL,List.map_append,List.map_set,List.map_take,List.map_drop,List.map_replicate,List.nil_append];done) | (simp only[boL,List.map_append,List.map_set,List.map_take,List.map_drop,List.map_replicate,List.nil_append];rfl) | (simp[gL,boL,lI,sA,bA];done) | (simp[gL,boL,lI,sA,bA];rfl) | (simp only[netA,List.map_append,List.map_set,List.map_cons,List.map_nil];rfl)))))) (u2 (u2 (u2 (u2 s2)))))))))))) (al (u2 s2)))) <|
  .br (fun a8=>
   .rt [80,88,104,145] [] [] [] [] [] (aj (aj a8 s2) t2))
  (fun a8=>
   .gu fun a9=>
   .gu fun a10=>
   .lq [80,88,104,144] [] [] [] [] [1,2,3] [4,5,6,8,10,12,13] (up [(12,AV.sl 2 0 (List.map bA (netM ls 0 8).bs).length)] [(2,List.replicate (List.map bA (netM ls 0 8).bs).length (AV.bool false))] (ssoSt ls (.l0 (List.replicate (List.map bA (netM ls 0 8).bs).length false) ((0:Int))))) (aj (aj a8 (aj (u2 (u2 (u2 (aj (k2 (aj (show 0≤iN (List.map bA (netM ls 0 8).bs).length from(Int.natCast_nonneg _)) (aj (show iN (List.map bA (netM ls 0 8).bs).length≤iN (List.map bA (netM ls 0 8).bs).length by omega) (aj a9 a10)))) s2)))) s2)) (k2 t9)) (by simp[up,upF,upV,upH,upB,ssoSt,gL,boL,lI,sA,bA])))))) (by kernel_rfl)
theorem ssoS0_ok(ls:List Int)(v0:List Bool)(v1:Int)(o:ssoPc⊕Ret)(h:ssoS0 ls v0 v1=some o):Arr Try.prog Try.f8 0 (ssoSt ls) ssoHd (headC Try.f8 0) (.rnd (headC Try.f8 0)::headK Try.f8 0) (ssoSt ls (.l0 v0 v1)) o:=
 Scr.ok h mix (
 .rn 0 [] [] [] [] (al (u2 (u2 (u2 (u2 (al t3)))))) <|
 .br (fun a0=>
 .gu fun a1=>
 .el fun x86 a2=>
 .br (fun a3=>
  .el fun x92 a4=>
  .br (fun a5=>
  .rt [163,177,191] [(86,AV.bool x86),(92,AV.bool x92)] [] [] [] [] (aj (aj a0 (aj (u2 (u2 (aj (k2 (aj a1 (getMap (f:=AV.bool) a2))) (u2 (u2 (ag a3 (ag a3 (ag a3 (aj (aj a3 (k2 (aj a1 (getMap (f:=AV.bool) a4)))) (ag a3 (ag a3 (u2 (aj a5 (aj a5 (aj a5 (aj a5 (aj a5 (aj a5 (k5 (aj a5 (al (aj a5 t2)))))))))))))))))))))) (ak s2))) t2))
  (fun a5=>
  .el fun x98 a6=>
  .br (fun a7=>
   .el fun x104 a8=>
   .rn 0 [163,177,190,203] [(86,AV.bool x86),(92,AV.bool x92),(98,AV.bool x98),(104,AV.bool x104)] [] [] (aj a0 (al (u2 (u2 (aj (k2 (aj a1 (getMap (f:=AV.bool) a2))) (u2 (u2 (ag a3 (ag a3 (ag a3 (aj (aj a3 (k2 (aj a1 (getMap (f:=AV.bool) a4)))) (ag a3 (ag a3 (u2 (ag a5 (ag a5 (aj (aj a5 (k2 (aj a1 (getMap (f:=AV.bool) a6)))) (ag a5 (ag a5 (ag a5 (ag a7 (ag a7 (aj (aj a7 (k2 (aj a1 (getMap (f:=AV.bool) a8)))) (ag a7 (ag a7 (aj (aj a5 (aj a7 t2)) (al (aj a5 t2)))))))))))))))))))))))))))) <|
   .br (fun a9=>
   .rt [177,190,203,217] [] [] [] [] [] (aj (aj a9 s2) t2))
   (fun a9=>
   .el fun x113 a10=>
   .gu fun a11=>
   .gu fun a12=>
   .lq [177,190,203,216] [(113,AV.bool x113)] [] [] [] [0,1,2] [4,5,6,8,10,12,13] (up [(12,AV.sl 2 0 v0.length)] [(2,(List.map AV.bool v0).set (0+v1.toNat) (AV.bool !x113))] (ssoSt ls (.l0 (v0.set (0+v1.toNat) !x113) (IntKind.i64.wrap (v1+1))))) (aj (aj a9 (aj (u2 (u2 (u2 (u2 (aj (k2 (aj a1 (getMap (f:=AV.bool) a10))) (u2 (u2 (aj (k2 (aj a1 a11)) (al (k2 a12)))))))))) (al (u2 (u2 s2))))) (k2 t9)) (by simp[up,upF,upV,upH,upB,ssoSt,gL,boL,lI,sA,bA])))
  (fun a7=>
   .rn 0 [163,177,190,202] [(86,AV.bool x86),(92,AV.bool x92),(98,AV.bool x98)] [] [] (aj a0 (al (u2 (u2 (aj (k2 (aj a1 (getMap (f:=AV.bool) a2))) (u2 (u2 (ag a3 (ag a3 (ag a3 (aj (aj a3 (k2 (aj a1 (getMap (f:=AV.bool) a4)))) (ag a3 (ag a3 (u2 (ag a5 (ag a5 (aj (aj a5 (k2 (aj a1 (getMap (f:=AV.bool) a6)))) (ag a5 (ag a5 (ag a5 (aj a7 (aj a7 (aj a7 (aj a7 (aj a7 (aj (aj a5 (aj a7 t2)) (al (aj a5 t2)))))))))))))))))))))))))))) <|
   .el fun x113 a8=>
   .gu fun a9=>
   .gu fun a10=>
   .lq [177,190,202] [(113,AV.bool x113)] [] [] [] [0,1,2] [4,5,6,8,10,12,13] (up [(12,AV.sl 2 0 v0.length)] [(2,(List.map AV.bool v0).set (0+v1.toNat) (AV.bool !x113))] (ssoSt ls (.l0 (v0.set (0+v1.toNat) !x113) (IntKind.i64.wrap (v1+1))))) (aj (ak (aj (u2 (u2 (u2 (u2 (aj (k2 (aj a1 (getMap (f:=AV.bool) a8))) (u2 (u2 (aj (k2 (aj a1 a9)) (al (k2 a10)))))))))) (al (u2 (u2 s2))))) (k2 t9)) (by simp[up,upF,upV,upH,upB,ssoSt,gL,boL,lI,sA,bA]))))
 (fun a3=>
  .el fun x98 a4=>
  .br (fun a5=>
  .el fun x104 a6=>
  .rn 0 [163,176,203] [(86,AV.bool x86),(98,AV.bool x98),(104,AV.bool x104)] [] [] (aj a0 (al (u2 (u2 (aj (k2 (aj a1 (getMap (f:=AV.bool) a2))) (u2 (u2 (aj a3 (aj a3 (aj a3 (aj a3 (aj a3 (ag a3 (u2 (aj t3 (aj t3 (aj (k3 (aj a1 (getMap (f:=AV.bool) a4))) (aj t3 (aj t3 (aj t3 (ag a5 (ag a5 (aj (aj a5 (k2 (aj a1 (getMap (f:=AV.bool) a6)))) (ag a5 (ag a5 (aj (ak (aj a5 t2)) (al t3))))))))))))))))))))))))))) <|
  .br (fun a7=>
   .rt [176,203,217] [] [] [] [] [] (aj (aj a7 s2) t2))
  (fun a7=>
   .el fun x113 a8=>
   .gu fun a9=>
   .gu fun a10=>
   .lq [176,203,216] [(113,AV.bool x113)] [] [] [] [0,1,2] [4,5,6,8,10,12,13] (up [(12,AV.sl 2 0 v0.length)] [(2,(List.map AV.bool v0).set (0+v1.toNat) (AV.bool !x113))] (ssoSt ls (.l0 (v0.set (0+v1.toNat) !x113) (IntKind.i64.wrap (v1+1))))) (aj (aj a7 (aj (u2 (u2 (u2 (u2 (aj (k2 (aj a1 (getMap (f:=AV.bool) a8))) (u2 (u2 (aj (k2 (aj a1 a9)) (al (k2 a10)))))))))) (al (u2 (u2 s2))))) (k2 t9)) (by simp[up,upF,upV,upH,upB,ssoSt,gL,boL,lI,sA,bA])))
  (fun a5=>
  .rn 0 [163,176,202] [(86,AV.bool x86),(98,AV.bool x98)] [] [] (aj a0 (al (u2 (u2 (aj (k2 (aj a1 (getMap (f:=AV.bool) a2))) (u2 (u2 (aj a3 (aj a3 (aj a3 (aj a3 (aj a3 (ag a3 (u2 (aj t3 (aj t3 (aj (k3 (aj a1 (getMap (f:=AV.bool) a4))) (aj t3 (aj t3 (aj t3 (aj a5 (aj a5 (aj a5 (aj a5 (aj a5 (aj (ak (aj a5 t2)) (al t3))))))))))))))))))))))))))) <|
  .el fun x113 a6=>
  .gu fun a7=>
  .gu fun a8=>
  .lq [176,202] [(113,AV.bool x113)] [] [] [] [0,1,2] [4,5,6,8,10,12,13] (up [(12,AV.sl 2 0 v0.length)] [(2,(List.map AV.bool v0).set (0+v1.toNat) (AV.bool !x113))] (ssoSt ls (.l0 (v0.set (0+v1.toNat) !x113) (IntKind.i64.wrap (v1+1))))) (aj (ak (aj (u2 (u2 (u2 (u2 (aj (k2 (aj a1 (getMap (f:=AV.bool) a6))) (u2 (u2 (aj (k2 (aj a1 a7)) (al (k2 a8)))))))))) (al (u2 (u2 s2))))) (k2 t9)) (by simp[up,upF,upV,upH,upB,ssoSt,gL,boL,lI,sA,bA]))))
 (fun a0=>
 .rn 0 [162] [] [] [] (aj a0 (al (u2 s2))) <|
 .br (fun a1=>
  .rt [237] [] [] [] [] [] (aj (aj a1 s2) t2))
 (fun a1=>
  .gu fun a2=>
  have c0:=mut_e ((netM ls 0 8).nx) v0 a2;
  .rn 0 [236] [] [(123,hK c0 [] [2])] [] (aj a1 (al (u2 (u2 (u2 (aj (k3 (aj (show v0.length=(List.map AV.bool v0).length by simp) (aj (c0) (show ∀(blk:Blk),blk∈[]→ImmB blk from(by intro _ h;cases h))))) (u2 (u2 (u2 (u2 s2)))))))))) <|
  .br (fun a3=>
  .rt [257] [] [] [] [] [] (aj (al (u2 (u2 (u2 (ag a3 (ag a3 s2)))))) t2))
  (fun a3=>
  .rt [256] [] [] [] [] [] (aj (al (u2 (u2 (u2 (aj a3 (ag a3 s2)))))) t2))))) (by kernel_rfl)
theorem sso_ct(ls:List Int)(r:Ret)(h:MReach (ssoStep ls) (ssoEn ls) r):CT Try.prog 8 ([]) ([lI ls]) r.1 r.2:=
 CT.mach (fn:=Try.f8) (c:=zB Try.f8) (S:=ssoSt ls) (hd:=ssoHd) Try.func8 (by kernel_rfl) (Nat.le_of_ble_eq_true rfl)
  (fun s o ho=>match s,ho with
   | .l0 v0 v1,ho=>ssoS0_ok ls v0 v1 o ho
  )
  (fun o ho=>ssoEn_ok ls o ho) h
theorem val_nx{n:NetD}(hv:ValidN n):valZ n.nx=true:=by
 have h24:=hv.nb24
 have hl:=hv.nx
 have hb:badG n.nx=false:=by
  unfold badG
  rw[fnd_false (fun v _ h1=>?_)];rfl
  have hb:=hv.blk v _ (List.getElem?_eq_getElem (show v<n.bs.length by omega))
  have:=hb.nx
  rw[nxB_eq] at this
  unfold badR
  rw[hl]
  cases h:(fnd (badE (n.nx.getD v []) n.bs.length v) 0 (n.nx.getD v []).length).isSome with
  | false=>rfl
  | true=>rw[h] at this;cases this
 unfold valZ
 rw[hb,dec_f (show ¬24<n.nx.length by omega)];rfl
theorem chk_nl{n:NetD}(hv:ValidN n){sh:List Bool}(hl:sh.length=n.bs.length):chk4 n.nx sh=0:=by
 have h2:=hv.nx
 rw[chk4_val,if_pos (val_nx hv),if_neg (by omega)]
theorem bo_on1(sh:List Bool):∀(e:AV),e∈boL sh→e.cells.length=1:=fun e he=>by
 unfold boL at he;obtain⟨b,_,rfl⟩:=List.mem_map.1 he;rfl
theorem rdInts{n:Nat}{es:List AV}(h:∀x∈es,ShV Try.prog n 3 x):∃L:List Int,es=L.map (AV.int .i64):=by
 induction es with
 | nil=>exact⟨[],rfl⟩
 | cons x es ih=>
  obtain⟨L,rfl⟩:=ih fun y hy=>h y (List.mem_cons_of_mem _ hy)
  obtain⟨i,_,rfl⟩:=(h x (by simp)).intD Try.underlying3
  exact⟨i::L,rfl⟩
theorem sso_run(ls:List Int):CT Try.prog 8 [] [lI ls] [] (.bool true):=by
 obtain⟨hn,hk,_⟩:=net_spec (L:=ls) (kk:=0) (most:=8) (by decide) (by decide)
 obtain⟨hS,_,_⟩:=md_spec (l:=ls) (kk:=netK ls 0 8) hn.v hn.rows (by omega)
 have hsb:=ks_b hn.v hS
 obtain⟨hv,_,l1,l2,l3,l4,l5⟩:=sig_len hsb
 have h24:=hv.nb24
 have e1:shE (netM ls 0 8) (mdS ls (netK ls 0 8) (netM ls 0 8))=0:=by unfold shE;rw[hsb];rfl
 have e2:shO (netM ls 0 8) (mdS ls (netK ls 0 8) (netM ls 0 8))=shtS (mdS ls (netK ls 0 8) (netM ls 0 8)):=by unfold shO;rw[hsb];rfl
 have e3:soO (netM ls 0 8) (mdS ls (netK ls 0 8) (netM ls 0 8))=soL (netM ls 0 8) (mdS ls (netK ls 0 8) (netM ls 0 8)):=by unfold soO;rw[hsb];rfl
 have hsl:=shtS_len (mdS ls (netK ls 0 8) (netM ls 0 8))
 have hso:=soL_len (netM ls 0 8) (mdS ls (netK ls 0 8) (netM ls 0 8))
 have hbs:(List.map bA (netM ls 0 8).bs).length=(netM ls 0 8).bs.length:=List.length_map ..
 refine sso_ct ls ([],_) ?_
 unfold ssoEn
 rw[gu_t hn.v,gu_t hn.rows,gu_t (by omega),e1,br_f (by rfl),e2,e3,hbs,boL_len,boL_len,boL_len,hso,hsl,br_f (by simp),br_f (by simp),gu_t (bo_on1 _),gu_t (by simp only[iN];omega)]
 have et:List.take ((netM ls 0 8).bs.length-Int.toNat 0) (List.drop (Int.toNat 0) (shtS (mdS ls (netK ls 0 8) (netM ls 0 8))))=(shtS (mdS ls (netK ls 0 8) (netM ls 0 8))).take (netM ls 0 8).bs.length:=by simp
 rw[et,chk_nl hv (by rw[List.length_take,hsl];omega),br_f (by rfl),gu_t (by simp only[iN];omega),gu_t (by simp only[iN];omega)]
 have hrl:(List.replicate (netM ls 0 8).bs.length false).length=(netM ls 0 8).bs.length:=List.length_replicate ..
 rw[show List.replicate (netM ls 0 8).bs.length false=mxL (List.replicate (netM ls 0 8).bs.length false) (fun j=> !(soB (netM ls 0 8) (mdS ls (netK ls 0 8) (netM ls 0 8)) j)) 0 from mxL_0.symm]
 refine loop_up (fun i=>ssoPc.l0 (mxL (List.replicate (netM ls 0 8).bs.length false) (fun j=> !(soB (netM ls 0 8) (mdS ls (netK ls 0 8) (netM ls 0 8)) j)) i) (i:Int)) (netM ls 0 8).bs.length (fun i hi hx=>?_) ?_
 ·refine .to (show ssoS0 ls _ (i:Int)=_ from ?_) hx
  have hst:=mxL_set (A:=List.replicate (netM ls 0 8).bs.length false) (f:=fun j=> !(soB (netM ls 0 8) (mdS ls (netK ls 0 8) (netM ls 0 8)) j)) (i:=i) (by rw[hrl];exact hi)
  have hml:=mxL_len (A:=List.replicate (netM ls 0 8).bs.length false) (f:=fun j=> !(soB (netM ls 0 8) (mdS ls (netK ls 0 8) (netM ls 0 8)) j)) (i:=i)
  rw[hrl] at hml
  rw[←hst]
  clear hst hx
  generalize mxL (List.replicate (netM ls 0 8).bs.length false) (fun j=> !(soB (netM ls 0 8) (mdS ls (netK ls 0 8) (netM ls 0 8)) j)) i=v0 at hml ⊢
  have g1:∀{β:Type} {f:Bool→Option β},el (soL (netM ls 0 8) (mdS ls (netK ls 0 8) (netM ls 0 8))) (i:Int).toNat f=f (soB (netM ls 0 8) (mdS ls (netK ls 0 8) (netM ls 0 8)) i):=fun {β f}=>by rw[elG false (by rw[hso];exact hi),soL_get hi]
  have g2:∀{β:Type} {f:Bool→Option β},el (shtS (mdS ls (netK ls 0 8) (netM ls 0 8))) (i:Int).toNat f=f ((shtS (mdS ls (netK ls 0 8) (netM ls 0 8))).getD i true):=fun {β f}=>elG true (by rw[hsl];omega)
  have g3:∀{β:Type} {f:Bool→Option β},el (mdS ls (netK ls 0 8) (netM ls 0 8)).cl (i:Int).toNat f=f ((mdS ls (netK ls 0 8) (netM ls 0 8)).cl.getD i true):=fun {β f}=>elG true (by omega)
  have t1:(i:Int)<iN v0.length:=by simp only[iN];omega
  have t2:(0+(i:Int).toNat).succ.le (List.map AV.bool v0).length:=by rw[List.length_map,hml,Int.toNat_natCast,Nat.zero_add];exact hi
  unfold ssoS0
  rw[e2,e3,hbs,br_t (dec_t (by simp only[iN];omega)),gu_t (by omega)]
  simp only[g1,g2,g3]
  rw[gu_t t1,gu_t t2,zW i (by omega),Int.toNat_natCast]
  cases hb:soB (netM ls 0 8) (mdS ls (netK ls 0 8) (netM ls 0 8)) i with
  | true=>
   rw[br_t rfl,so_open hb,br_f rfl]
   cases (shtS (mdS ls (netK ls 0 8) (netM ls 0 8))).getD i true with
   | true=>rw[br_f (by rfl)]
   | false=>rw[br_t (by rfl),br_f (by rfl)]
  | false=>
   rw[br_f rfl]
   cases hq:(shtS (mdS ls (netK ls 0 8) (netM ls 0 8))).getD i true with
   | true=>rw[br_f (by rfl)]
   | false=>rw[so_of hv hS ⟨hi,hq⟩] at hb;cases hb
 ·have hno:mxL (List.replicate (netM ls 0 8).bs.length false) (fun j=> !(soB (netM ls 0 8) (mdS ls (netK ls 0 8) (netM ls 0 8)) j)) (netM ls 0 8).bs.length=noL (netM ls 0 8) (mdS ls (netK ls 0 8) (netM ls 0 8)):=by
   unfold mxL noL soL
   rw[hrl,List.map_map]
   exact List.map_congr_left fun j hj=>if_pos (List.mem_range.1 hj)
  have hnl:(noL (netM ls 0 8) (mdS ls (netK ls 0 8) (netM ls 0 8))).length=(netM ls 0 8).bs.length:=by unfold noL;rw[List.length_map,hso]
  refine .to (show ssoS0 ls _ ((netM ls 0 8).bs.length:Int)=_ from ?_) (.ret _)
  rw[hno]
  unfold ssoS0
  rw[e2,hbs,br_f (dec_f (by simp only[iN];omega)),et]
  cases hm:muB (netM ls 0 8).nx ((shtS (mdS ls (netK ls 0 8) (netM ls 0 8))).take (netM ls 0 8).bs.length) with
  | false=>rw[br_t (by rfl)]
  | true=>
   rw[br_f (by rfl),gu_t hn.rows,chk_nl hv hnl,br_t (by rfl),so_mut hv hS (chk_nl hv hnl) hm]
theorem signalsSound_row(avs:List AV)(h:ShVs Try.prog 6 Try.f8.params.toList avs):CT Try.prog 8 [] avs [] (.bool true):=by
 rw[Try.params8] at h
 obtain⟨a,_,rfl,ka,h⟩:=h.consD
 obtain rfl:=h.nilD
 obtain⟨_,_,he,rfl⟩:=ka.sliceD Try.underlying22
 obtain⟨l,rfl⟩:=rdInts he
 exact sso_run l
end Go.Proofs.Ytedjkebooffjpaa

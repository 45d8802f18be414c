/- Parts of the proof:LmB,Lm3m,Lm4m,LmC,LmD,Lm6m,LmE,Lm9m,Lf2m,LfB,Lf3m,LfC,Gc1m,GcA,Gc2m,GcB,Gc3m,GcC,Gc4m,GcD,Lj4m,LjB,LmJm,LmK,LmN,LmOm,Lm7m,LmF,LmP. -/
import Derived.KernelRfl
import Derived.Test.YthjgbnbibebigaaGreatProg
import Derived.Test.YthjgbnbibebigaaGreatLedgerQuietM8
noncomputable section
set_option linter.unusedVariables false
set_option linter.unusedSimpArgs false
open Go Go.AX Go.Proofs
set_option maxRecDepth 100000
set_option linter.unusedVariables false
set_option linter.unusedSimpArgs false
open Go.IntKind (i64 u64)
open List renaming map->Wn,replicate->Wo
open Go.AX.AV renaming lst->Wt
open Go.Proofs.Tryz renaming prog->Wu
namespace Go.Proofs.YthjgbnbibebigaaGreat
theorem lNw_c(n:Aa)(hv:An n)(hr:RwV n):CT Wu 18 [] [Ai n] [] (.tup [lgA ⟨(AP n).cl,(AP n).bw,(AP n).pe,[],neU n⟩,.int .i64 0]):=by
 have hnr:=hv.nr;refine CT.wkT (cs:=[.lst (boL (AP n).cl),lI (AP n).bw,lI (AP n).pe,.nils,.lst ((neU n).map usA)]) (lNw_ct n ([],_) ?_);unfold PS;rw[Ab hv,Ab hr];have key:∀(d i:Nat),i+d=n.rs.length->Ac (Ml n) (some (.inl (.l0 (i:Int) ((n.rs.take i).map fun c=>⟨1,false,plI n c⟩)))) (([],.tup [.agg [.lst (boL (AP n).cl),lI (AP n).bw,lI (AP n).pe,.nils,.lst ((neU n).map usA)],.int .i64 0]):Ret):=by
  intro d;induction d with
  | zero=>
   intro i hi;obtain rfl:i=n.rs.length:=by omega
   refine .to (show Ml n (.l0 (n.rs.length:Nat) _)=Gt n (n.rs.length:Nat) _ from rfl) ?_;unfold Gt;rw[AN,List.take_length];exact .ret _
  | succ d ih=>
   intro i hi;have hx:n.rs[i]?=some n.rs[i]:=Vv (by omega);have e:(n.rs.take (i+1)).map (fun c=>(⟨1,false,plI n c⟩:UsD))=(n.rs.take i).map (fun c=>(⟨1,false,plI n c⟩:UsD))++[⟨1,false,plI n n.rs[i]⟩]:=by rw[List.take_add_one,hx,VJ];rfl
   have:=ih (i+1) (by omega);rw[e] at this;have hl2:(Wn usA ((n.rs.take i).map (fun c=>(⟨1,false,plI n c⟩:UsD)))).length<=i:=by simp only[Vy,VX];omega
   obtain⟨t,ht,hd,h3⟩:=(hv.rob i _ hx).1;obtain⟨j,hj⟩:=List.getElem?_of_mem (List.mem_of_mem_take ht);have g1:=hv.sb hj;have g2:=hv.ends hj;refine .to (show Ml n (.l0 (i:Nat) _)=Gt n (i:Nat) _ from rfl) ?_;unfold Gt;rw[AR hx,Ab hr,Ab hv,Ab (by simp only[iN];omega),Ab (by simp only[V9];omega),Ab (by simp only[V9];omega),Bi i (by omega)];exact this
 exact key n.rs.length 0 (by omega)
@[irreducible] def BP:Aa->LgD->CmD->LgD×Int×Int:=Classical.choose tas_P.fn
theorem tas_s(n:Aa)(x:LgD)(c:CmD)(hV:LgV n x):(LgV n (BP n x c).1/\MqT n x c (BP n x c))/\CTX Wu 26 (bkO n x) [.ptr 0 0 0,cmA c] (bkF n (BP n x c).1) (.agg [.int .i64 (BP n x c).2.1,.int .i64 (BP n x c).2.2]):=by unfold BP;exact V8 tas_P.fn n x c hV
theorem tas_c(n:Aa)(cl:List Bool)(bw pe:List Int)(tk:List TsD)(us:List UsD)(c:CmD)(n1 n2:Nat)(e1:n1=tk.length)(e2:n2=us.length)(hV:LgV n ⟨cl,bw,pe,tk,us⟩):CTX Wu 26 (bkH n cl bw pe tk us n1 n2) [.ptr 0 0 0,cmA c] (bkF n (BP n ⟨cl,bw,pe,tk,us⟩ c).1) (.agg [.int .i64 (BP n ⟨cl,bw,pe,tk,us⟩ c).2.1,.int .i64 (BP n ⟨cl,bw,pe,tk,us⟩ c).2.2]):=by subst e1 e2;exact(tas_s n ⟨cl,bw,pe,tk,us⟩ c hV).2
@[irreducible] def BQ:Aa->LgD->CmD->LgD×Int×Int:=Classical.choose bcn_P.fn
theorem bcn_s(n:Aa)(x:LgD)(c:CmD)(hV:LgV n x):(LgV n (BQ n x c).1/\MqC n x c (BQ n x c))/\CTX Wu 27 (bkO n x) [.ptr 0 0 0,cmA c] (bkF n (BQ n x c).1) (.agg [.int .i64 (BQ n x c).2.1,.int .i64 (BQ n x c).2.2]):=by unfold BQ;exact V8 bcn_P.fn n x c hV
theorem bcn_c(n:Aa)(cl:List Bool)(bw pe:List Int)(tk:List TsD)(us:List UsD)(c:CmD)(n1 n2:Nat)(e1:n1=tk.length)(e2:n2=us.length)(hV:LgV n ⟨cl,bw,pe,tk,us⟩):CTX Wu 27 (bkH n cl bw pe tk us n1 n2) [.ptr 0 0 0,cmA c] (bkF n (BQ n ⟨cl,bw,pe,tk,us⟩ c).1) (.agg [.int .i64 (BQ n ⟨cl,bw,pe,tk,us⟩ c).2.1,.int .i64 (BQ n ⟨cl,bw,pe,tk,us⟩ c).2.2]):=by subst e1 e2;exact(bcn_s n ⟨cl,bw,pe,tk,us⟩ c hV).2
@[irreducible] def BO:Aa->LgD->CmD->LgD×Int×Int:=Classical.choose bcl_P.fn
theorem Oh(n:Aa)(x:LgD)(c:CmD)(hV:LgV n x):(LgV n (BO n x c).1/\MqL n x c (BO n x c))/\CTX Wu 28 (bkO n x) [.ptr 0 0 0,cmA c] (bkF n (BO n x c).1) (.agg [.int .i64 (BO n x c).2.1,.int .i64 (BO n x c).2.2]):=by unfold BO;exact V8 bcl_P.fn n x c hV
theorem bcl_c(n:Aa)(cl:List Bool)(bw pe:List Int)(tk:List TsD)(us:List UsD)(c:CmD)(n1 n2:Nat)(e1:n1=tk.length)(e2:n2=us.length)(hV:LgV n ⟨cl,bw,pe,tk,us⟩):CTX Wu 28 (bkH n cl bw pe tk us n1 n2) [.ptr 0 0 0,cmA c] (bkF n (BO n ⟨cl,bw,pe,tk,us⟩ c).1) (.agg [.int .i64 (BO n ⟨cl,bw,pe,tk,us⟩ c).2.1,.int .i64 (BO n ⟨cl,bw,pe,tk,us⟩ c).2.2]):=by subst e1 e2;exact(Oh n ⟨cl,bw,pe,tk,us⟩ c hV).2
@[irreducible] def Cg:Aa->LgD->CmD->LgD×Int×Int:=Classical.choose bo2_P.fn
theorem bo2_s(n:Aa)(x:LgD)(c:CmD)(hV:LgV n x):(LgV n (Cg n x c).1/\MqK n x c (Cg n x c))/\CTX Wu 29 (bkO n x) [.ptr 0 0 0,cmA c] (bkF n (Cg n x c).1) (.agg [.int .i64 (Cg n x c).2.1,.int .i64 (Cg n x c).2.2]):=by unfold Cg;exact V8 bo2_P.fn n x c hV
theorem bo2_c(n:Aa)(cl:List Bool)(bw pe:List Int)(tk:List TsD)(us:List UsD)(c:CmD)(n1 n2:Nat)(e1:n1=tk.length)(e2:n2=us.length)(hV:LgV n ⟨cl,bw,pe,tk,us⟩):CTX Wu 29 (bkH n cl bw pe tk us n1 n2) [.ptr 0 0 0,cmA c] (bkF n (Cg n ⟨cl,bw,pe,tk,us⟩ c).1) (.agg [.int .i64 (Cg n ⟨cl,bw,pe,tk,us⟩ c).2.1,.int .i64 (Cg n ⟨cl,bw,pe,tk,us⟩ c).2.2]):=by subst e1 e2;exact(bo2_s n ⟨cl,bw,pe,tk,us⟩ c hV).2
@[irreducible] def B7:Aa->LgD->CmD->LgD×Int×Int:=Classical.choose bre_P.fn
theorem bre_s(n:Aa)(x:LgD)(c:CmD)(hV:LgV n x):(LgV n (B7 n x c).1/\MqK n x c (B7 n x c))/\CTX Wu 31 (bkO n x) [.ptr 0 0 0,cmA c] (bkF n (B7 n x c).1) (.agg [.int .i64 (B7 n x c).2.1,.int .i64 (B7 n x c).2.2]):=by unfold B7;exact V8 bre_P.fn n x c hV
theorem bre_c(n:Aa)(cl:List Bool)(bw pe:List Int)(tk:List TsD)(us:List UsD)(c:CmD)(n1 n2:Nat)(e1:n1=tk.length)(e2:n2=us.length)(hV:LgV n ⟨cl,bw,pe,tk,us⟩):CTX Wu 31 (bkH n cl bw pe tk us n1 n2) [.ptr 0 0 0,cmA c] (bkF n (B7 n ⟨cl,bw,pe,tk,us⟩ c).1) (.agg [.int .i64 (B7 n ⟨cl,bw,pe,tk,us⟩ c).2.1,.int .i64 (B7 n ⟨cl,bw,pe,tk,us⟩ c).2.2]):=by subst e1 e2;exact(bre_s n ⟨cl,bw,pe,tk,us⟩ c hV).2
@[irreducible] def BK:Aa->LgD->CmD->LgD×Int×Int:=Classical.choose bst_P.fn
theorem bst_s(n:Aa)(x:LgD)(c:CmD)(hV:LgV n x):(LgV n (BK n x c).1/\MqS n x c (BK n x c))/\CTX Wu 32 (bkO n x) [.ptr 0 0 0,cmA c] (bkF n (BK n x c).1) (.agg [.int .i64 (BK n x c).2.1,.int .i64 (BK n x c).2.2]):=by unfold BK;exact V8 bst_P.fn n x c hV
theorem bst_c(n:Aa)(cl:List Bool)(bw pe:List Int)(tk:List TsD)(us:List UsD)(c:CmD)(n1 n2:Nat)(e1:n1=tk.length)(e2:n2=us.length)(hV:LgV n ⟨cl,bw,pe,tk,us⟩):CTX Wu 32 (bkH n cl bw pe tk us n1 n2) [.ptr 0 0 0,cmA c] (bkF n (BK n ⟨cl,bw,pe,tk,us⟩ c).1) (.agg [.int .i64 (BK n ⟨cl,bw,pe,tk,us⟩ c).2.1,.int .i64 (BK n ⟨cl,bw,pe,tk,us⟩ c).2.2]):=by subst e1 e2;exact(bst_s n ⟨cl,bw,pe,tk,us⟩ c hV).2
@[irreducible] def Cd:Aa->LgD->CmD->LgD×Int×Int:=Classical.choose bsg_P.fn
theorem bsg_s(n:Aa)(x:LgD)(c:CmD)(hV:LgV n x):(LgV n (Cd n x c).1/\MqK n x c (Cd n x c))/\CTX Wu 33 (bkO n x) [.ptr 0 0 0,cmA c] (bkF n (Cd n x c).1) (.agg [.int .i64 (Cd n x c).2.1,.int .i64 (Cd n x c).2.2]):=by unfold Cd;exact V8 bsg_P.fn n x c hV
theorem bsg_c(n:Aa)(cl:List Bool)(bw pe:List Int)(tk:List TsD)(us:List UsD)(c:CmD)(n1 n2:Nat)(e1:n1=tk.length)(e2:n2=us.length)(hV:LgV n ⟨cl,bw,pe,tk,us⟩):CTX Wu 33 (bkH n cl bw pe tk us n1 n2) [.ptr 0 0 0,cmA c] (bkF n (Cd n ⟨cl,bw,pe,tk,us⟩ c).1) (.agg [.int .i64 (Cd n ⟨cl,bw,pe,tk,us⟩ c).2.1,.int .i64 (Cd n ⟨cl,bw,pe,tk,us⟩ c).2.2]):=by subst e1 e2;exact(bsg_s n ⟨cl,bw,pe,tk,us⟩ c hV).2
@[irreducible] def BB:Aa->LgD->CmD->LgD×Int×Int:=Classical.choose bfl_P.fn
theorem Qe(n:Aa)(x:LgD)(c:CmD)(hV:LgV n x):(LgV n (BB n x c).1/\MqF n x c (BB n x c))/\CTX Wu 34 (bkO n x) [.ptr 0 0 0,cmA c] (bkF n (BB n x c).1) (.agg [.int .i64 (BB n x c).2.1,.int .i64 (BB n x c).2.2]):=by unfold BB;exact V8 bfl_P.fn n x c hV
theorem bfl_c(n:Aa)(cl:List Bool)(bw pe:List Int)(tk:List TsD)(us:List UsD)(c:CmD)(n1 n2:Nat)(e1:n1=tk.length)(e2:n2=us.length)(hV:LgV n ⟨cl,bw,pe,tk,us⟩):CTX Wu 34 (bkH n cl bw pe tk us n1 n2) [.ptr 0 0 0,cmA c] (bkF n (BB n ⟨cl,bw,pe,tk,us⟩ c).1) (.agg [.int .i64 (BB n ⟨cl,bw,pe,tk,us⟩ c).2.1,.int .i64 (BB n ⟨cl,bw,pe,tk,us⟩ c).2.2]):=by subst e1 e2;exact(Qe n ⟨cl,bw,pe,tk,us⟩ c hV).2
@[irreducible] def Cc:Aa->LgD->CmD->LgD×Int×Int:=Classical.choose bqu_P.fn
theorem bqu_s(n:Aa)(x:LgD)(c:CmD)(hV:LgV n x):(LgV n (Cc n x c).1/\MqK n x c (Cc n x c))/\CTX Wu 35 (bkO n x) [.ptr 0 0 0,cmA c] (bkF n (Cc n x c).1) (.agg [.int .i64 (Cc n x c).2.1,.int .i64 (Cc n x c).2.2]):=by unfold Cc;exact V8 bqu_P.fn n x c hV
theorem bqu_c(n:Aa)(cl:List Bool)(bw pe:List Int)(tk:List TsD)(us:List UsD)(c:CmD)(n1 n2:Nat)(e1:n1=tk.length)(e2:n2=us.length)(hV:LgV n ⟨cl,bw,pe,tk,us⟩):CTX Wu 35 (bkH n cl bw pe tk us n1 n2) [.ptr 0 0 0,cmA c] (bkF n (Cc n ⟨cl,bw,pe,tk,us⟩ c).1) (.agg [.int .i64 (Cc n ⟨cl,bw,pe,tk,us⟩ c).2.1,.int .i64 (Cc n ⟨cl,bw,pe,tk,us⟩ c).2.2]):=by subst e1 e2;exact(bqu_s n ⟨cl,bw,pe,tk,us⟩ c hV).2
end Go.Proofs.YthjgbnbibebigaaGreat
set_option maxHeartbeats 4000000
namespace Go.Proofs.YthjgbnbibebigaaGreat
def Qw(n:Aa)(cl:List Bool)(bw pe:List Int)(tk:List TsD)(us:List UsD)(u w:ByteArray)(q:Int):Option (Empty⊕Ret):=gu (LgV n (LgD.mk cl bw pe tk us)) <|some (.inr ([],AV.tup [AV.agg [Wt (boL (BP n (LgD.mk cl bw pe tk us) (CmD.mk 1 u w q)).fst.cl),Wt (Wn iV (BP n (LgD.mk cl bw pe tk us) (CmD.mk 1 u w q)).fst.bw),Wt (Wn iV (BP n (LgD.mk cl bw pe tk us) (CmD.mk 1 u w q)).fst.pe),Wt (Wn tsA (BP n (LgD.mk cl bw pe tk us) (CmD.mk 1 u w q)).fst.tk),Wt (Wn usA (BP n (LgD.mk cl bw pe tk us) (CmD.mk 1 u w q)).fst.us)],AV.agg [iV (BP n (LgD.mk cl bw pe tk us) (CmD.mk 1 u w q)).snd.fst,iV (BP n (LgD.mk cl bw pe tk us) (CmD.mk 1 u w q)).snd.snd],iV 0]))
theorem cm1_ct(n:Aa)(cl:List Bool)(bw pe:List Int)(tk:List TsD)(us:List UsD)(u w:ByteArray)(q:Int)(r:Ret)(h:Ac emT (Qw n cl bw pe tk us u w q) r):CT Wu 9 ([]) ([Ai n,lgA ⟨cl,bw,pe,tk,us⟩,cmA ⟨1,u,w,q⟩]) r.1 r.2:=CT.mach (fn:=Tryz.f9) (c:=zB Tryz.f9) (S:=emS) (hd:=emH) Tryz.func9 (by kernel_rfl) (nL rfl) (fun s o ho=>match s,ho with | x,_=>x.elim) (fun o ho=>Scr.ok (X:=Qw n cl bw pe tk us u w q) ho mix (.ra (aL t4) <|.gu fun a0=>have c0:=Dh n (cl) (bw) (pe) (tk) (us) a0;have c1:=tas_c n (cl) (bw) (pe) (tk) (us) (CmD.mk 1 (CmD.mk 1 u w q).a (CmD.mk 1 u w q).b q) (tk.length) (us.length) (show tk.length=tk.length from rfl) (show us.length=us.length from rfl) a0;.tb [] [] [(18,hK c0 [] []),(45,hKO c1 [5,6,7] [])] [] [] (af (b9 (bg (cN t9 t6 (c0)) ba) aw (ak (am (ah ba))) (ab (bb t3 ba) aw (bc (bb (aN (ab t5 aT (k2 (c1)))) aS) (cb (bq au au))))) (bq t6 t3))) (by kernel_rfl)) h
def P7(n:Aa)(cl:List Bool)(bw pe:List Int)(tk:List TsD)(us:List UsD)(u w:ByteArray)(q:Int):Option (Empty⊕Ret):=gu (LgV n (LgD.mk cl bw pe tk us)) <|some (.inr ([],AV.tup [AV.agg [Wt (boL (BQ n (LgD.mk cl bw pe tk us) (CmD.mk 2 u w q)).fst.cl),Wt (Wn iV (BQ n (LgD.mk cl bw pe tk us) (CmD.mk 2 u w q)).fst.bw),Wt (Wn iV (BQ n (LgD.mk cl bw pe tk us) (CmD.mk 2 u w q)).fst.pe),Wt (Wn tsA (BQ n (LgD.mk cl bw pe tk us) (CmD.mk 2 u w q)).fst.tk),Wt (Wn usA (BQ n (LgD.mk cl bw pe tk us) (CmD.mk 2 u w q)).fst.us)],AV.agg [iV (BQ n (LgD.mk cl bw pe tk us) (CmD.mk 2 u w q)).snd.fst,iV (BQ n (LgD.mk cl bw pe tk us) (CmD.mk 2 u w q)).snd.snd],iV 0]))
theorem cm2_ct(n:Aa)(cl:List Bool)(bw pe:List Int)(tk:List TsD)(us:List UsD)(u w:ByteArray)(q:Int)(r:Ret)(h:Ac emT (P7 n cl bw pe tk us u w q) r):CT Wu 9 ([]) ([Ai n,lgA ⟨cl,bw,pe,tk,us⟩,cmA ⟨2,u,w,q⟩]) r.1 r.2:=CT.mach (fn:=Tryz.f9) (c:=zB Tryz.f9) (S:=emS) (hd:=emH) Tryz.func9 (by kernel_rfl) (nL rfl) (fun s o ho=>match s,ho with | x,_=>x.elim) (fun o ho=>Scr.ok (X:=P7 n cl bw pe tk us u w q) ho mix (.ra (aL t4) <|.gu fun a0=>have c0:=Dh n (cl) (bw) (pe) (tk) (us) a0;have c1:=bcn_c n (cl) (bw) (pe) (tk) (us) (CmD.mk 2 (CmD.mk 2 u w q).a (CmD.mk 2 u w q).b q) (tk.length) (us.length) (show tk.length=tk.length from rfl) (show us.length=us.length from rfl) a0;.tb [] [] [(18,hK c0 [] []),(45,hKO c1 [5,6,7] [])] [] [] (af (b9 (bg (cN t9 t6 (c0)) ba) aw (ak (am (ah ba))) (ab (bb t3 ba) aw (bc (bb (aN (ab t5 aT (k2 (c1)))) aS) (cb (bq au au))))) (bq t6 t3))) (by kernel_rfl)) h
def Ou(n:Aa)(cl:List Bool)(bw pe:List Int)(tk:List TsD)(us:List UsD)(u w:ByteArray)(q:Int):Option (Empty⊕Ret):=gu (LgV n (LgD.mk cl bw pe tk us)) <|some (.inr ([],AV.tup [AV.agg [Wt (boL (BO n (LgD.mk cl bw pe tk us) (CmD.mk 3 u w q)).fst.cl),Wt (Wn iV (BO n (LgD.mk cl bw pe tk us) (CmD.mk 3 u w q)).fst.bw),Wt (Wn iV (BO n (LgD.mk cl bw pe tk us) (CmD.mk 3 u w q)).fst.pe),Wt (Wn tsA (BO n (LgD.mk cl bw pe tk us) (CmD.mk 3 u w q)).fst.tk),Wt (Wn usA (BO n (LgD.mk cl bw pe tk us) (CmD.mk 3 u w q)).fst.us)],AV.agg [iV (BO n (LgD.mk cl bw pe tk us) (CmD.mk 3 u w q)).snd.fst,iV (BO n (LgD.mk cl bw pe tk us) (CmD.mk 3 u w q)).snd.snd],iV 0]))
theorem cm3_ct(n:Aa)(cl:List Bool)(bw pe:List Int)(tk:List TsD)(us:List UsD)(u w:ByteArray)(q:Int)(r:Ret)(h:Ac emT (Ou n cl bw pe tk us u w q) r):CT Wu 9 ([]) ([Ai n,lgA ⟨cl,bw,pe,tk,us⟩,cmA ⟨3,u,w,q⟩]) r.1 r.2:=CT.mach (fn:=Tryz.f9) (c:=zB Tryz.f9) (S:=emS) (hd:=emH) Tryz.func9 (by kernel_rfl) (nL rfl) (fun s o ho=>match s,ho with | x,_=>x.elim) (fun o ho=>Scr.ok (X:=Ou n cl bw pe tk us u w q) ho mix (.ra (aL t4) <|.gu fun a0=>have c0:=Dh n (cl) (bw) (pe) (tk) (us) a0;have c1:=bcl_c n (cl) (bw) (pe) (tk) (us) (CmD.mk 3 (CmD.mk 3 u w q).a (CmD.mk 3 u w q).b q) (tk.length) (us.length) (show tk.length=tk.length from rfl) (show us.length=us.length from rfl) a0;.tb [] [] [(18,hK c0 [] []),(45,hKO c1 [5,6,7] [])] [] [] (af (b9 (bg (cN t9 t6 (c0)) ba) aw (ak (am (ah ba))) (ab (bb t3 ba) aw (bc (bb (aN (ab t5 aT (k2 (c1)))) aS) (cb (bq au au))))) (bq t6 t3))) (by kernel_rfl)) h
def NE(n:Aa)(cl:List Bool)(bw pe:List Int)(tk:List TsD)(us:List UsD)(u w:ByteArray)(q:Int):Option (Empty⊕Ret):=gu (LgV n (LgD.mk cl bw pe tk us)) <|some (.inr ([],AV.tup [AV.agg [Wt (boL (BK n (LgD.mk cl bw pe tk us) (CmD.mk 7 u w q)).fst.cl),Wt (Wn iV (BK n (LgD.mk cl bw pe tk us) (CmD.mk 7 u w q)).fst.bw),Wt (Wn iV (BK n (LgD.mk cl bw pe tk us) (CmD.mk 7 u w q)).fst.pe),Wt (Wn tsA (BK n (LgD.mk cl bw pe tk us) (CmD.mk 7 u w q)).fst.tk),Wt (Wn usA (BK n (LgD.mk cl bw pe tk us) (CmD.mk 7 u w q)).fst.us)],AV.agg [iV (BK n (LgD.mk cl bw pe tk us) (CmD.mk 7 u w q)).snd.fst,iV (BK n (LgD.mk cl bw pe tk us) (CmD.mk 7 u w q)).snd.snd],iV 0]))
theorem cm7_ct(n:Aa)(cl:List Bool)(bw pe:List Int)(tk:List TsD)(us:List UsD)(u w:ByteArray)(q:Int)(r:Ret)(h:Ac emT (NE n cl bw pe tk us u w q) r):CT Wu 9 ([]) ([Ai n,lgA ⟨cl,bw,pe,tk,us⟩,cmA ⟨7,u,w,q⟩]) r.1 r.2:=CT.mach (fn:=Tryz.f9) (c:=zB Tryz.f9) (S:=emS) (hd:=emH) Tryz.func9 (by kernel_rfl) (nL rfl) (fun s o ho=>match s,ho with | x,_=>x.elim) (fun o ho=>Scr.ok (X:=NE n cl bw pe tk us u w q) ho mix (.ra (aL t4) <|.gu fun a0=>have c0:=Dh n (cl) (bw) (pe) (tk) (us) a0;have c1:=bst_c n (cl) (bw) (pe) (tk) (us) (CmD.mk 7 (CmD.mk 7 u w q).a (CmD.mk 7 u w q).b q) (tk.length) (us.length) (show tk.length=tk.length from rfl) (show us.length=us.length from rfl) a0;.tb [] [] [(18,hK c0 [] []),(45,hKO c1 [5,6,7] [])] [] [] (af (b9 (bg (cN t9 t6 (c0)) ba) aw (ak (am (ah ba))) (ab (bb t3 ba) aw (bc (bb (aN (ab t5 aT (k2 (c1)))) aS) (cb (bq au au))))) (bq t6 t3))) (by kernel_rfl)) h
def MG(n:Aa)(cl:List Bool)(bw pe:List Int)(tk:List TsD)(us:List UsD)(u w:ByteArray)(q:Int):Option (Empty⊕Ret):=gu (LgV n (LgD.mk cl bw pe tk us)) <|some (.inr ([],AV.tup [AV.agg [Wt (boL (BB n (LgD.mk cl bw pe tk us) (CmD.mk 9 u w q)).fst.cl),Wt (Wn iV (BB n (LgD.mk cl bw pe tk us) (CmD.mk 9 u w q)).fst.bw),Wt (Wn iV (BB n (LgD.mk cl bw pe tk us) (CmD.mk 9 u w q)).fst.pe),Wt (Wn tsA (BB n (LgD.mk cl bw pe tk us) (CmD.mk 9 u w q)).fst.tk),Wt (Wn usA (BB n (LgD.mk cl bw pe tk us) (CmD.mk 9 u w q)).fst.us)],AV.agg [iV (BB n (LgD.mk cl bw pe tk us) (CmD.mk 9 u w q)).snd.fst,iV (BB n (LgD.mk cl bw pe tk us) (CmD.mk 9 u w q)).snd.snd],iV 0]))
theorem cm9_ct(n:Aa)(cl:List Bool)(bw pe:List Int)(tk:List TsD)(us:List UsD)(u w:ByteArray)(q:Int)(r:Ret)(h:Ac emT (MG n cl bw pe tk us u w q) r):CT Wu 9 ([]) ([Ai n,lgA ⟨cl,bw,pe,tk,us⟩,cmA ⟨9,u,w,q⟩]) r.1 r.2:=CT.mach (fn:=Tryz.f9) (c:=zB Tryz.f9) (S:=emS) (hd:=emH) Tryz.func9 (by kernel_rfl) (nL rfl) (fun s o ho=>match s,ho with | x,_=>x.elim) (fun o ho=>Scr.ok (X:=MG n cl bw pe tk us u w q) ho mix (.ra (aL t4) <|.gu fun a0=>have c0:=Dh n (cl) (bw) (pe) (tk) (us) a0;have c1:=bfl_c n (cl) (bw) (pe) (tk) (us) (CmD.mk 9 (CmD.mk 9 u w q).a (CmD.mk 9 u w q).b q) (tk.length) (us.length) (show tk.length=tk.length from rfl) (show us.length=us.length from rfl) a0;.tb [] [] [(18,hK c0 [] []),(45,hKO c1 [5,6,7] [])] [] [] (af (b9 (bg (cN t9 t6 (c0)) ba) aw (ak (am (ah ba))) (ab (bb t3 ba) aw (bc (bb (aN (ab t5 aT (k2 (c1)))) aS) (cb (bq au au))))) (bq t6 t3))) (by kernel_rfl)) h
def L3:Option (Empty⊕Ret):=some (.inr ([],AV.agg [Wt [AV.agg [AV.str (ByteArray.mk #[97]),iV 0,iV 0],AV.agg [AV.str (ByteArray.mk #[98]),iV 0,iV 0]],Wt [Wt [iV 1],Wt [iV 0]],Wt [AV.agg [AV.str (ByteArray.mk #[100]),bV true,iV 0,iV 1,iV 2,iV 2]],Wt [iV 3],iV 4,iV 2,iV 1,iV 8]))
theorem exm_ct(r:Ret)(h:Ac emT (L3) r):CT Wu 19 ([]) ([]) r.1 r.2:=CT.mach (fn:=Tryz.f19) (c:=zB Tryz.f19) (S:=emS) (hd:=emH) Tryz.func19 (by kernel_rfl) (nL rfl) (fun s o ho=>match s,ho with | x,_=>x.elim) (fun o ho=>Scr.ok (X:=L3) ho mix (.tb [] [(3,Wt []),(4,Wt []),(5,Wt []),(6,Wt []),(8,Wt []),(9,Wt [])] [] [] [] (af (bo (an t3 (an t3 (ak (u2 (k2 (af t6 au))))))) t9)) (by kernel_rfl)) h
theorem cm1_c(n:Aa)(cl:List Bool)(bw pe:List Int)(tk:List TsD)(us:List UsD)(u w:ByteArray)(q:Int)(hV:LgV n ⟨cl,bw,pe,tk,us⟩):CT Wu 9 [] [Ai n,lgA ⟨cl,bw,pe,tk,us⟩,cmA ⟨1,u,w,q⟩] [] (.tup [lgA (BP n ⟨cl,bw,pe,tk,us⟩ ⟨1,u,w,q⟩).1,.agg [.int .i64 (BP n ⟨cl,bw,pe,tk,us⟩ ⟨1,u,w,q⟩).2.1,.int .i64 (BP n ⟨cl,bw,pe,tk,us⟩ ⟨1,u,w,q⟩).2.2],.int .i64 0]):=cm1_ct n cl bw pe tk us u w q ([],_) (.val (by unfold Qw;rw[Ab hV];rfl))
theorem cm2_c(n:Aa)(cl:List Bool)(bw pe:List Int)(tk:List TsD)(us:List UsD)(u w:ByteArray)(q:Int)(hV:LgV n ⟨cl,bw,pe,tk,us⟩):CT Wu 9 [] [Ai n,lgA ⟨cl,bw,pe,tk,us⟩,cmA ⟨2,u,w,q⟩] [] (.tup [lgA (BQ n ⟨cl,bw,pe,tk,us⟩ ⟨2,u,w,q⟩).1,.agg [.int .i64 (BQ n ⟨cl,bw,pe,tk,us⟩ ⟨2,u,w,q⟩).2.1,.int .i64 (BQ n ⟨cl,bw,pe,tk,us⟩ ⟨2,u,w,q⟩).2.2],.int .i64 0]):=cm2_ct n cl bw pe tk us u w q ([],_) (.val (by unfold P7;rw[Ab hV];rfl))
theorem cm3_c(n:Aa)(cl:List Bool)(bw pe:List Int)(tk:List TsD)(us:List UsD)(u w:ByteArray)(q:Int)(hV:LgV n ⟨cl,bw,pe,tk,us⟩):CT Wu 9 [] [Ai n,lgA ⟨cl,bw,pe,tk,us⟩,cmA ⟨3,u,w,q⟩] [] (.tup [lgA (BO n ⟨cl,bw,pe,tk,us⟩ ⟨3,u,w,q⟩).1,.agg [.int .i64 (BO n ⟨cl,bw,pe,tk,us⟩ ⟨3,u,w,q⟩).2.1,.int .i64 (BO n ⟨cl,bw,pe,tk,us⟩ ⟨3,u,w,q⟩).2.2],.int .i64 0]):=cm3_ct n cl bw pe tk us u w q ([],_) (.val (by unfold Ou;rw[Ab hV];rfl))
theorem cm7_c(n:Aa)(cl:List Bool)(bw pe:List Int)(tk:List TsD)(us:List UsD)(u w:ByteArray)(q:Int)(hV:LgV n ⟨cl,bw,pe,tk,us⟩):CT Wu 9 [] [Ai n,lgA ⟨cl,bw,pe,tk,us⟩,cmA ⟨7,u,w,q⟩] [] (.tup [lgA (BK n ⟨cl,bw,pe,tk,us⟩ ⟨7,u,w,q⟩).1,.agg [.int .i64 (BK n ⟨cl,bw,pe,tk,us⟩ ⟨7,u,w,q⟩).2.1,.int .i64 (BK n ⟨cl,bw,pe,tk,us⟩ ⟨7,u,w,q⟩).2.2],.int .i64 0]):=cm7_ct n cl bw pe tk us u w q ([],_) (.val (by unfold NE;rw[Ab hV];rfl))
theorem cm9_c(n:Aa)(cl:List Bool)(bw pe:List Int)(tk:List TsD)(us:List UsD)(u w:ByteArray)(q:Int)(hV:LgV n ⟨cl,bw,pe,tk,us⟩):CT Wu 9 [] [Ai n,lgA ⟨cl,bw,pe,tk,us⟩,cmA ⟨9,u,w,q⟩] [] (.tup [lgA (BB n ⟨cl,bw,pe,tk,us⟩ ⟨9,u,w,q⟩).1,.agg [.int .i64 (BB n ⟨cl,bw,pe,tk,us⟩ ⟨9,u,w,q⟩).2.1,.int .i64 (BB n ⟨cl,bw,pe,tk,us⟩ ⟨9,u,w,q⟩).2.2],.int .i64 0]):=cm9_ct n cl bw pe tk us u w q ([],_) (.val (by unfold MG;rw[Ab hV];rfl))
theorem RS:∃n:Aa,n=⟨[⟨⟨#[97]⟩,0,0⟩,⟨⟨#[98]⟩,0,0⟩],[[1],[0]],[⟨⟨#[100]⟩,true,0,1,2,2⟩],[3],4,2,1,8⟩:=⟨_,rfl⟩
@[irreducible] def exN:Aa:=Classical.choose RS
theorem EE:exN=⟨[⟨⟨#[97]⟩,0,0⟩,⟨⟨#[98]⟩,0,0⟩],[[1],[0]],[⟨⟨#[100]⟩,true,0,1,2,2⟩],[3],4,2,1,8⟩:=by unfold exN;exact V8 RS
theorem NR:CT Wu 19 [] [] [] (Ai exN):=by rw[EE];exact exm_ct _ (.val (show L3=some (.inr _) by unfold L3;exact rfl))
theorem R0:Rows exN.nx:=by
 rw[EE];intro v hv;match v,hv with
 | 0,_=>decide
 | 1,_=>decide
 | v+2,hv=>simp at hv;try omega
theorem Ki:An exN:=by
 rw[EE];refine⟨by decide +kernel,rfl,by decide,by decide,by decide +kernel,?_,?_,?_,?_,?_⟩
 .intro i b h;match i,h with
  | 0,h=>cases h;exact⟨by decide +kernel,by decide +kernel,by decide +kernel,by decide +kernel⟩
  | 1,h=>cases h;exact⟨by decide +kernel,by decide +kernel,by decide +kernel,by decide +kernel⟩
  | i+2,h=>simp at h
 .intro i s h;match i,h with
  | 0,h=>cases h;exact⟨by decide +kernel,by decide +kernel,by decide +kernel,by decide +kernel,by decide +kernel⟩
  | i+1,h=>simp at h
 .decide +kernel
 .exact⟨2,⟨⟨#[100]⟩,true,0,1,2,2⟩,by simp,rfl,by decide,by decide⟩
 .intro i c h;match i,h with
  | 0,h=>cases h;exact⟨⟨⟨⟨#[100]⟩,true,0,1,2,2⟩,by simp,rfl,by decide,by decide⟩,by simp⟩
  | i+1,h=>simp at h
theorem SO:∃x:LgD,x=⟨(AP exN).cl,(AP exN).bw,(AP exN).pe,[],neU exN⟩:=⟨_,rfl⟩
@[irreducible] def exL:LgD:=Classical.choose SO
theorem KV:exL=⟨(AP exN).cl,(AP exN).bw,(AP exN).pe,[],neU exN⟩:=by unfold exL;exact V8 SO
theorem Li:LgV exN exL:=KV ▸ neV Ki ⟨Ki,R0⟩
theorem lNw_k:CT Wu 18 [] [Ai exN] [] (.tup [lgA exL,.int .i64 0]):=by rw[KV];exact lNw_c exN Ki ⟨Ki,R0⟩
theorem ex_cn:cnF exL.us=1/\cnP exL.us=1:=by rw[KV,Po,Nc];unfold neU A7;rw[EE];exact⟨rfl,rfl⟩
theorem ex_b:Ax exN ⟨#[98]⟩=1:=by unfold Ax;rw[EE];decide +kernel
theorem Sw:Am exN=4:=by rw[EE];decide +kernel
theorem ex_sh:AC ⟨exL.cl,exL.bw,exL.pe⟩=[false,false,false,false]:=by rw[KV];show Wo (Am exN) false=_;rw[Sw];rfl
theorem ex_al:alO exN [false,false,false,false] 1 1=false:=by
 have h:=Nu (n:=exN) (sh:=[false,false,false,false]) (bk:=1) (fl:=1) (Ob Ki (by rw[Sw];rfl) (by omega)) (by rw[EE];decide);rw[h.2];unfold alB caB;have h2:decide ((1:Int)<=slS exN (wth [false,false,false,false] 1))=false:=by rw[EE];decide +kernel
 rw[h2,Bool.and_false,Bool.and_false]
theorem cm3_k:CT Wu 9 [] [Ai exN,lgA exL,cmA ⟨3,⟨#[98]⟩,⟨#[]⟩,0⟩] [] (.tup [lgA exL,.agg [.int .i64 5,.int .i64 0],.int .i64 0]):=by have h:=cm3_c exN exL.cl exL.bw exL.pe exL.tk exL.us ⟨#[98]⟩ ⟨#[]⟩ 0 Li;have k:=(Oh exN exL ⟨3,⟨#[98]⟩,⟨#[]⟩,0⟩ Li).1.2;unfold MqL at k;simp only at k;rw[ex_b,ex_sh,ex_cn.1] at k;have k2:=(k.2 (by decide)).2.2 rfl ex_al;have k1:=k.1 (by rw[k2];decide);rw[k2,k1] at h;exact h
theorem cm9_k:CT Wu 9 [] [Ai exN,lgA exL,cmA ⟨9,⟨#[]⟩,⟨#[]⟩,0⟩] [] (.tup [lgA exL,.agg [.int .i64 12,.int .i64 1],.int .i64 0]):=by have h:=cm9_c exN exL.cl exL.bw exL.pe exL.tk exL.us ⟨#[]⟩ ⟨#[]⟩ 0 Li;have k:BB exN exL ⟨9,⟨#[]⟩,⟨#[]⟩,0⟩=(exL,12,cnP exL.us):=(Qe exN exL ⟨9,⟨#[]⟩,⟨#[]⟩,0⟩ Li).1.2;rw[k,ex_cn.2] at h;exact h
def knoEn:Option (Empty⊕Ret):=some (.inr ([],bV true))
theorem kno_ct(r:Ret)(h:Ac emT (knoEn) r):CT Wu 7 ([]) ([]) r.1 r.2:=CT.mach (fn:=Tryz.f7) (c:=zB Tryz.f7) (S:=emS) (hd:=emH) Tryz.func7 (by kernel_rfl) (nL rfl) (fun s o ho=>match s,ho with | x,_=>x.elim) (fun o ho=>Scr.ok (X:=knoEn) ho mix (have c0:=NR;have c1:=lNw_k;have c2:=NR;have c3:=cm3_k;have c4:=NR;have c5:=cm9_k;.tb [] [] [(10,hK c0 [] []),(11,hK c1 [] []),(15,hK c2 [] []),(18,hK c3 [] []),(23,hK c4 [] []),(26,hK c5 [] [])] [] [] (az (aG (ab (al (c0)) (bc t9 (c1)) (am (aU au s2))) (ax (aO (al (c2)) (aU (bB t9 (ax t6 t5 (c3))) (ah (k2 (ab au au s2))))) (aO (al (c4)) (aU (bB t9 (ax t6 t5 (c5))) (ah (k2 (ab au au s2))))) (bb t3 (cK (aG t3 (cK (aG t3 (u2 (ab t4 t3 (aG t3 (u2 (ab t4 t3 s2)))))))))))))) (by kernel_rfl)) h
theorem kno_c:CT Wu 7 [] [] [] (.bool true):=kno_ct _ (.val rfl)
def Pt(n:Aa)(cl:List Bool)(bw pe:List Int)(tk:List TsD)(us:List UsD)(u w:ByteArray)(q:Int):Option (Empty⊕Ret):=gu (LgV n (LgD.mk cl bw pe tk us)) <|some (.inr ([],AV.tup [AV.agg [Wt (boL cl),Wt (Wn iV bw),Wt (Wn iV pe),Wt (Wn tsA tk),Wt (Wn usA us)],AV.agg [iV 0,iV 0],iV 0]))
theorem cm0_ct(n:Aa)(cl:List Bool)(bw pe:List Int)(tk:List TsD)(us:List UsD)(u w:ByteArray)(q:Int)(r:Ret)(h:Ac emT (Pt n cl bw pe tk us u w q) r):CT Wu 9 ([]) ([Ai n,lgA ⟨cl,bw,pe,tk,us⟩,cmA ⟨0,u,w,q⟩]) r.1 r.2:=CT.mach (fn:=Tryz.f9) (c:=zB Tryz.f9) (S:=emS) (hd:=emH) Tryz.func9 (by kernel_rfl) (nL rfl) (fun s o ho=>match s,ho with | x,_=>x.elim) (fun o ho=>Scr.ok (X:=Pt n cl bw pe tk us u w q) ho mix (.ra (aL t4) <|.gu fun a0=>have c0:=Dh n (cl) (bw) (pe) (tk) (us) a0;.tb [] [] [(18,hK c0 [] [])] [] [6,7] (af (b9 (bg (cN t9 t6 (c0)) ba) aw (ak (am (ah ba))) (cf (bb t3 ba) aw (ah (ak (bq au au))))) (bq (k3 (af (show tk.length=(Wn tsA tk).length by simp) (show us.length=(Wn usA us).length by simp))) t3))) (by kernel_rfl)) h
def ON(n:Aa)(cl:List Bool)(bw pe:List Int)(tk:List TsD)(us:List UsD)(u w:ByteArray)(q:Int):Option (Empty⊕Ret):=gu (LgV n (LgD.mk cl bw pe tk us)) <|some (.inr ([],AV.tup [AV.agg [Wt (boL (Cg n (LgD.mk cl bw pe tk us) (CmD.mk 4 u w q)).fst.cl),Wt (Wn iV (Cg n (LgD.mk cl bw pe tk us) (CmD.mk 4 u w q)).fst.bw),Wt (Wn iV (Cg n (LgD.mk cl bw pe tk us) (CmD.mk 4 u w q)).fst.pe),Wt (Wn tsA (Cg n (LgD.mk cl bw pe tk us) (CmD.mk 4 u w q)).fst.tk),Wt (Wn usA (Cg n (LgD.mk cl bw pe tk us) (CmD.mk 4 u w q)).fst.us)],AV.agg [iV (Cg n (LgD.mk cl bw pe tk us) (CmD.mk 4 u w q)).snd.fst,iV (Cg n (LgD.mk cl bw pe tk us) (CmD.mk 4 u w q)).snd.snd],iV 0]))
theorem cm4_ct(n:Aa)(cl:List Bool)(bw pe:List Int)(tk:List TsD)(us:List UsD)(u w:ByteArray)(q:Int)(r:Ret)(h:Ac emT (ON n cl bw pe tk us u w q) r):CT Wu 9 ([]) ([Ai n,lgA ⟨cl,bw,pe,tk,us⟩,cmA ⟨4,u,w,q⟩]) r.1 r.2:=CT.mach (fn:=Tryz.f9) (c:=zB Tryz.f9) (S:=emS) (hd:=emH) Tryz.func9 (by kernel_rfl) (nL rfl) (fun s o ho=>match s,ho with | x,_=>x.elim) (fun o ho=>Scr.ok (X:=ON n cl bw pe tk us u w q) ho mix (.ra (aL t4) <|.gu fun a0=>have c0:=Dh n (cl) (bw) (pe) (tk) (us) a0;have c1:=bo2_c n (cl) (bw) (pe) (tk) (us) (CmD.mk 4 (CmD.mk 4 u w q).a (CmD.mk 4 u w q).b q) (tk.length) (us.length) (show tk.length=tk.length from rfl) (show us.length=us.length from rfl) a0;.tb [] [] [(18,hK c0 [] []),(45,hKO c1 [5,6,7] [])] [] [] (af (b9 (bg (cN t9 t6 (c0)) ba) aw (ak (am (ah ba))) (ab (bb t3 ba) aw (bc (bb (aN (ab t5 aT (k2 (c1)))) aS) (cb (bq au au))))) (bq t6 t3))) (by kernel_rfl)) h
def Pg(n:Aa)(cl:List Bool)(bw pe:List Int)(tk:List TsD)(us:List UsD)(u w:ByteArray)(q:Int):Option (Empty⊕Ret):=gu (LgV n (LgD.mk cl bw pe tk us)) <|some (.inr ([],AV.tup [AV.agg [Wt (boL (B7 n (LgD.mk cl bw pe tk us) (CmD.mk 6 u w q)).fst.cl),Wt (Wn iV (B7 n (LgD.mk cl bw pe tk us) (CmD.mk 6 u w q)).fst.bw),Wt (Wn iV (B7 n (LgD.mk cl bw pe tk us) (CmD.mk 6 u w q)).fst.pe),Wt (Wn tsA (B7 n (LgD.mk cl bw pe tk us) (CmD.mk 6 u w q)).fst.tk),Wt (Wn usA (B7 n (LgD.mk cl bw pe tk us) (CmD.mk 6 u w q)).fst.us)],AV.agg [iV (B7 n (LgD.mk cl bw pe tk us) (CmD.mk 6 u w q)).snd.fst,iV (B7 n (LgD.mk cl bw pe tk us) (CmD.mk 6 u w q)).snd.snd],iV 0]))
theorem cm6_ct(n:Aa)(cl:List Bool)(bw pe:List Int)(tk:List TsD)(us:List UsD)(u w:ByteArray)(q:Int)(r:Ret)(h:Ac emT (Pg n cl bw pe tk us u w q) r):CT Wu 9 ([]) ([Ai n,lgA ⟨cl,bw,pe,tk,us⟩,cmA ⟨6,u,w,q⟩]) r.1 r.2:=CT.mach (fn:=Tryz.f9) (c:=zB Tryz.f9) (S:=emS) (hd:=emH) Tryz.func9 (by kernel_rfl) (nL rfl) (fun s o ho=>match s,ho with | x,_=>x.elim) (fun o ho=>Scr.ok (X:=Pg n cl bw pe tk us u w q) ho mix (.ra (aL t4) <|.gu fun a0=>have c0:=Dh n (cl) (bw) (pe) (tk) (us) a0;have c1:=bre_c n (cl) (bw) (pe) (tk) (us) (CmD.mk 6 (CmD.mk 6 u w q).a (CmD.mk 6 u w q).b q) (tk.length) (us.length) (show tk.length=tk.length from rfl) (show us.length=us.length from rfl) a0;.tb [] [] [(18,hK c0 [] []),(45,hKO c1 [5,6,7] [])] [] [] (af (b9 (bg (cN t9 t6 (c0)) ba) aw (ak (am (ah ba))) (ab (bb t3 ba) aw (bc (bb (aN (ab t5 aT (k2 (c1)))) aS) (cb (bq au au))))) (bq t6 t3))) (by kernel_rfl)) h
def MY(n:Aa)(cl:List Bool)(bw pe:List Int)(tk:List TsD)(us:List UsD)(u w:ByteArray)(q:Int):Option (Empty⊕Ret):=gu (LgV n (LgD.mk cl bw pe tk us)) <|some (.inr ([],AV.tup [AV.agg [Wt (boL (Cd n (LgD.mk cl bw pe tk us) (CmD.mk 8 u w q)).fst.cl),Wt (Wn iV (Cd n (LgD.mk cl bw pe tk us) (CmD.mk 8 u w q)).fst.bw),Wt (Wn iV (Cd n (LgD.mk cl bw pe tk us) (CmD.mk 8 u w q)).fst.pe),Wt (Wn tsA (Cd n (LgD.mk cl bw pe tk us) (CmD.mk 8 u w q)).fst.tk),Wt (Wn usA (Cd n (LgD.mk cl bw pe tk us) (CmD.mk 8 u w q)).fst.us)],AV.agg [iV (Cd n (LgD.mk cl bw pe tk us) (CmD.mk 8 u w q)).snd.fst,iV (Cd n (LgD.mk cl bw pe tk us) (CmD.mk 8 u w q)).snd.snd],iV 0]))
theorem cm8_ct(n:Aa)(cl:List Bool)(bw pe:List Int)(tk:List TsD)(us:List UsD)(u w:ByteArray)(q:Int)(r:Ret)(h:Ac emT (MY n cl bw pe tk us u w q) r):CT Wu 9 ([]) ([Ai n,lgA ⟨cl,bw,pe,tk,us⟩,cmA ⟨8,u,w,q⟩]) r.1 r.2:=CT.mach (fn:=Tryz.f9) (c:=zB Tryz.f9) (S:=emS) (hd:=emH) Tryz.func9 (by kernel_rfl) (nL rfl) (fun s o ho=>match s,ho with | x,_=>x.elim) (fun o ho=>Scr.ok (X:=MY n cl bw pe tk us u w q) ho mix (.ra (aL t4) <|.gu fun a0=>have c0:=Dh n (cl) (bw) (pe) (tk) (us) a0;have c1:=bsg_c n (cl) (bw) (pe) (tk) (us) (CmD.mk 8 (CmD.mk 8 u w q).a (CmD.mk 8 u w q).b q) (tk.length) (us.length) (show tk.length=tk.length from rfl) (show us.length=us.length from rfl) a0;.tb [] [] [(18,hK c0 [] []),(45,hKO c1 [5,6,7] [])] [] [] (af (b9 (bg (cN t9 t6 (c0)) ba) aw (ak (am (ah ba))) (ab (bb t3 ba) aw (bc (bb (aN (ab t5 aT (k2 (c1)))) aS) (cb (bq au au))))) (bq t6 t3))) (by kernel_rfl)) h
def Ox(n:Aa)(cl:List Bool)(bw pe:List Int)(tk:List TsD)(us:List UsD)(u w:ByteArray)(q:Int):Option (Empty⊕Ret):=gu (LgV n (LgD.mk cl bw pe tk us)) <|some (.inr ([],AV.tup [AV.agg [Wt (boL (Cc n (LgD.mk cl bw pe tk us) (CmD.mk 10 u w q)).fst.cl),Wt (Wn iV (Cc n (LgD.mk cl bw pe tk us) (CmD.mk 10 u w q)).fst.bw),Wt (Wn iV (Cc n (LgD.mk cl bw pe tk us) (CmD.mk 10 u w q)).fst.pe),Wt (Wn tsA (Cc n (LgD.mk cl bw pe tk us) (CmD.mk 10 u w q)).fst.tk),Wt (Wn usA (Cc n (LgD.mk cl bw pe tk us) (CmD.mk 10 u w q)).fst.us)],AV.agg [iV (Cc n (LgD.mk cl bw pe tk us) (CmD.mk 10 u w q)).snd.fst,iV (Cc n (LgD.mk cl bw pe tk us) (CmD.mk 10 u w q)).snd.snd],iV 0]))
theorem cmX_ct(n:Aa)(cl:List Bool)(bw pe:List Int)(tk:List TsD)(us:List UsD)(u w:ByteArray)(q:Int)(r:Ret)(h:Ac emT (Ox n cl bw pe tk us u w q) r):CT Wu 9 ([]) ([Ai n,lgA ⟨cl,bw,pe,tk,us⟩,cmA ⟨10,u,w,q⟩]) r.1 r.2:=CT.mach (fn:=Tryz.f9) (c:=zB Tryz.f9) (S:=emS) (hd:=emH) Tryz.func9 (by kernel_rfl) (nL rfl) (fun s o ho=>match s,ho with | x,_=>x.elim) (fun o ho=>Scr.ok (X:=Ox n cl bw pe tk us u w q) ho mix (.ra (aL t4) <|.gu fun a0=>have c0:=Dh n (cl) (bw) (pe) (tk) (us) a0;have c1:=bqu_c n (cl) (bw) (pe) (tk) (us) (CmD.mk 10 (CmD.mk 10 u w q).a (CmD.mk 10 u w q).b q) (tk.length) (us.length) (show tk.length=tk.length from rfl) (show us.length=us.length from rfl) a0;.tb [] [] [(18,hK c0 [] []),(45,hKO c1 [5,6,7] [])] [] [] (af (b9 (bg (cN t9 t6 (c0)) ba) aw (ak (am (ah ba))) (ab (bb t3 ba) aw (bc (bb (aN (ab t5 aT (k2 (c1)))) aS) (cb (bq au au))))) (bq t6 t3))) (by kernel_rfl)) h
inductive FX where | l0 (v0:Int)
def smeSt(cl:List Bool)(bw pe:List Int)(tk:List TsD)(us:List UsD):FX->St | .l0 v0=>St.mk 79 [(2,AV.ptr 0 0 0),(3,AV.ptr 1 0 0),(5,iv v0)] [some (bK [AV.agg [Wt (boL cl),Wt (Wn iv bw),Wt (Wn iv pe),Wt (Wn tsA tk),Wt (Wn usA us)]] 5),some (bK [AV.agg [Wt (boL cl),Wt (Wn iv bw),Wt (Wn iv pe),Wt (Wn tsA tk),Wt (Wn usA us)]] 5)]
def MO(cl:List Bool)(bw pe:List Int)(tk:List TsD)(us:List UsD):Option (FX⊕Ret):=gu ((Aj.mk cl bw pe).cl.length<=1000000) <|gu ((Aj.mk cl bw pe).bw.length<=1000000) <|gu ((Aj.mk cl bw pe).pe.length<=1000000) <|gu (tk.length<=1000000) <|br (iN (Wn usA us).length != iN (Wn usA us).length) (some (.inr ([],bV false))) (some (.inl (.l0 ((0:Int)))))
def Hx(cl:List Bool)(bw pe:List Int)(tk:List TsD)(us:List UsD)(v0:Int):Option (FX⊕Ret):=br (decide (v0<iN (Wn usA us).length)) (gu (0<=v0) <|el (us) (v0.toNat) fun(x39:UsD)=>el (us) (v0.toNat) fun(x45:UsD)=>br (x39.s != x45.s) (some (.inr ([],bV false))) (el (us) (v0.toNat) fun(x53:UsD)=>el (us) (v0.toNat) fun(x59:UsD)=>br (!x53.lv==x59.lv) (some (.inr ([],bV false))) (el (us) (v0.toNat) fun(x68:UsD)=>el (us) (v0.toNat) fun(x74:UsD)=>br (x68.hm != x74.hm) (some (.inr ([],bV false))) (some (.inl (.l0 (i64.wrap (v0+1)))))))) (some (.inr ([],bV true)))
def smeStep(cl:List Bool)(bw pe:List Int)(tk:List TsD)(us:List UsD):FX->Option (FX⊕Ret) | .l0 v0=>Hx cl bw pe tk us v0
theorem sme_ct(cl:List Bool)(bw pe:List Int)(tk:List TsD)(us:List UsD)(r:Ret)(h:Ac (smeStep cl bw pe tk us) (MO cl bw pe tk us) r):CT Wu 12 ([]) ([lgA ⟨cl,bw,pe,tk,us⟩,lgA ⟨cl,bw,pe,tk,us⟩]) r.1 r.2:=CT.mach (fn:=Tryz.f12) (c:=zB Tryz.f12) (S:=(smeSt cl bw pe tk us)) (hd:=FX.ctorIdx) Tryz.func12 (by kernel_rfl) (nL rfl) (fun s o ho=>match s,ho with | .l0 v0,ho=>Scr.ok (X:=Hx cl bw pe tk us v0) ho mix (.ra cR <|.br (fun a0=>.gu fun a1=>.el fun x39 a2=>.el fun x45 a3=>.br (fun a4=>.tb [67,99] [(39,usA x39),(45,usA x45)] [] [] [] (az (ab a0 (am (bH a1 (Ae (f:=usA) a2) (ah (aB a1 (Ae (f:=usA) a3) (bg t3 (aG a4 (aZ a4 (aZ a4 (aZ a4 (bj a4 (k3 (k5 cq)))))))))))) bn))) (fun a4=>.el fun x53 a5=>.el fun x59 a6=>.br (fun a7=>.tb [67,98,129] [(39,usA x39),(45,usA x45),(53,usA x53),(59,usA x59)] [] [] [] (az (ab a0 (am (bH a1 (Ae (f:=usA) a2) (ah (aB a1 (Ae (f:=usA) a3) (aa (bD (bt a4 (cn a4 a1 (Ae (f:=usA) a5) (aI a4 (cJ a4 (an a1 (Ae (f:=usA) a6)) (aW a4 t3 (aG a7 (cA a7 (aZ a7 (bW a7))))))))))))))) bn))) (fun a7=>.el fun x68 a8=>.el fun x74 a9=>.rd [67,98,128] [(39,usA x39),(45,usA x45),(53,usA x53),(59,usA x59),(68,usA x68),(74,usA x74)] [] (bX a0 (bH a1 (Ae (f:=usA) a2) (ah (aB a1 (Ae (f:=usA) a3) (aa (bD (bt a4 (cn a4 a1 (Ae (f:=usA) a5) (aI a4 (cJ a4 (an a1 (Ae (f:=usA) a6)) (aW a4 t3 (u2 (bt a7 (cn a7 a1 (Ae (f:=usA) a8) (aI a7 (cJ a7 (an a1 (Ae (f:=usA) a9)) (bT a7 t3 a7))))))))))))))))) <|.br (fun a10=>.ta [98,128,157] (bO a10)) (fun a10=>.pa [98,128,156] [0,1] [2,3,5] (b4 a10 t6))))) (fun a0=>.ta [66] (bO a0))) (by kernel_rfl)) (fun o ho=>Scr.ok (X:=MO cl bw pe tk us) ho mix (.ra cI <|.gu fun a0=>.gu fun a1=>.gu fun a2=>.gu fun a3=>have c0:=sg3_c (Aj.mk cl bw pe) a0 a1 a2;have c1:=ts3_c (tk) a3;.rc [(10,hK c0 [] []),(17,hK c1 [] [])] (bC (aj (cN t4 t4 (c0)) (bg t3 (cK (bf (cm (c1)) (cK (aG t3 (cK (cK (ax t3 t4 t3)))))))))) <|.br (fun a4=>.ta [57] (bO a4)) (fun a4=>.pa [56] [0,1] [2,3,5] (cO a4 t6))) (by kernel_rfl)) h
inductive FS where | l0 (v0 v1:Int)
def hFrSt(n:Aa)(sh:List Bool)(hm:List Int)(sp:Int):FS->St | .l0 v0 v1=>St.mk 38 [(2,Wt (Wn iv hm)),(3,iv sp),(9,iv v0),(23,iv (iN (Wn iv hm).length)),(24,iv v1)] []
def N3(n:Aa)(sh:List Bool)(hm:List Int)(sp:Int):Option (FS⊕Ret):=gu (RwV n) <|gu (An n) <|gu (sh.length=Am n) <|gu (0<=sp/\sp<iN n.ss.length) <|br (!odB n sh sp) (some (.inr ([],iV 0))) (gu (0<=sp) <|el (n.ss) (sp.toNat) fun(x19:Au)=>some (.inl (.l0 (x19.k) ((0:Int)))))
def GN(n:Aa)(sh:List Bool)(hm:List Int)(sp v0 v1:Int):Option (FS⊕Ret):=br (decide (v1<iN (Wn iV hm).length)) (gu (0<=v1) <|el (hm) (v1.toNat) fun(x29:Int)=>br (x29==sp) (some (.inl (.l0 (i64.wrap (v0-1)) (i64.wrap (v1+1))))) (some (.inl (.l0 v0 (i64.wrap (v1+1)))))) (some (.inr ([],iV (if v0<0 then 0 else v0))))
def Rv(n:Aa)(sh:List Bool)(hm:List Int)(sp:Int):FS->Option (FS⊕Ret) | .l0 v0 v1=>GN n sh hm sp v0 v1
theorem hFr_ct(n:Aa)(sh:List Bool)(hm:List Int)(sp:Int)(r:Ret)(h:Ac (Rv n sh hm sp) (N3 n sh hm sp) r):CT Wu 137 ([]) ([Ai n,.lst (boL sh),lI hm,.int .i64 sp]) r.1 r.2:=CT.mach (fn:=Tryz.f137) (c:=zB Tryz.f137) (S:=(hFrSt n sh hm sp)) (hd:=FS.ctorIdx) Tryz.func137 (by kernel_rfl) (nL rfl) (fun s o ho=>match s,ho with | .l0 v0 v1,ho=>Scr.ok (X:=GN n sh hm sp v0 v1) ho mix (.ra bG <|.br (fun a0=>.rb [51] (bx a0) <|.gu fun a1=>.el fun x29 a2=>.rd [] [(29,iv x29)] [] (aR (aB a1 (Ae (f:=iv) a2) cM)) <|.br (fun a3=>.pa [65] [] [2,3,9,23,24] (bm a3 aE aw t6)) (fun a3=>.pa [64] [] [2,3,9,23,24] (cj a3 t6))) (fun a0=>.ta [50] (az (af a0 aE)))) (by kernel_rfl)) (fun o ho=>Scr.ok (X:=N3 n sh hm sp) ho mix (.ra bR <|.gu fun a0=>.gu fun a1=>.gu fun a2=>.gu fun a3=>have c0:=hopen_ct n (sh) (sp) a0 a1 a2 a3;.rc [(14,hK c0 [] [])] (aL (aj (bB t9 (aM (c0))) s2)) <|.br (fun a4=>.ta [31] (bO a4)) (fun a4=>.gu fun a5=>.el fun x19 a6=>.pb [30] [(19,sA x19)] [] [] [] [2,3,9,23,24] (bm a4 (cH a5 (Ae (f:=sA) a6) aE) bY t6))) (by kernel_rfl)) h
theorem hfree_ct(n:Aa)(sh:List Bool)(hm:List Int)(sp:Int)(hrw:RwV n)(hv:An n)(hl:sh.length=Am n)(h:0<=sp/\sp<n.ss.length)(h8:hm.length<=1000):CT Wu 137 [] [Ai n,.lst (boL sh),lI hm,.int .i64 sp] [] (.int .i64 (plZ n sh hm sp)):=by
 refine hFr_ct n sh hm sp ([],_) ?_;obtain⟨s,hs⟩:∃s,n.ss[sp.toNat]?=some s:=⟨_,Vv (by omega)⟩;have sb:=hv.sb hs;unfold N3 plZ slk;rw[Ab hrw,Ab hv,Ab hl,Ab h,hs];cases ho:odB n sh sp with
 | false=>exact .ret _
 | true=>
  rw[Ad (by rfl),Ab h.1,Al hs,Vt rfl];unfold plV;have e0:s.k=s.k-hcZ hm sp 0:=by unfold hcZ;simp
  suffices hh:Ac (Rv n sh hm sp) (some (.inl (.l0 (s.k-hcZ hm sp 0) ((0:Nat):Int)))) (([],.int .i64 (if s.k-hcZ hm sp hm.length<0 then 0 else s.k-hcZ hm sp hm.length)):Ret) by rw[<-e0] at hh;exact hh
  refine Bb (fun i=>FS.l0 (s.k-hcZ hm sp i) (i:Int)) hm.length (fun i hi hr=>.to ?_ hr) (.to ?_ (.ret _))
  .obtain⟨x,hx⟩:∃x,hm[i]?=some x:=⟨_,Vv hi⟩;have b:=QM hm sp i;show GN n sh hm sp _ i=_;unfold GN;rw[AR hx,S0 hx,zW i (by omega),A3 (s.k-hcZ hm sp i-1) (by omega) (by omega)];cases x==sp with
   | false=>simp[br]
   | true=>simp only[br,if_true];rw[show s.k-hcZ hm sp i-1=s.k-(hcZ hm sp i+1) by omega]
  .show GN n sh hm sp _ hm.length=_;unfold GN;rw[AN]
def Pb(n:Aa)(sh:List Bool)(hm:List Int)(sp:Int):Option (Empty⊕Ret):=gu (RwV n) <|br (hkE n sh hm != 0) (some (.inr ([],AV.tup [iV 0,iV (hkE n sh hm)]))) (br (decide (sp<0)) (some (.inr ([],AV.tup [iV 0,iV 19]))) (br (decide (iN (Wn sA n.ss).length<=sp)) (some (.inr ([],AV.tup [iV 0,iV 19]))) (gu (An n) <|gu (sh.length=Am n) <|gu (0<=sp/\sp<iN n.ss.length) <|gu (hm.length<=1000) <|some (.inr ([],AV.tup [iV (plZ n sh hm sp),iV 0])))))
theorem hFe_ct(n:Aa)(sh:List Bool)(hm:List Int)(sp:Int)(r:Ret)(h:Ac emT (Pb n sh hm sp) r):CT Wu 89 ([]) ([Ai n,.lst (boL sh),lI hm,.int .i64 sp]) r.1 r.2:=CT.mach (fn:=Tryz.f89) (c:=zB Tryz.f89) (S:=emS) (hd:=emH) Tryz.func89 (by kernel_rfl) (nL rfl) (fun s o ho=>match s,ho with | x,_=>x.elim) (fun o ho=>Scr.ok (X:=Pb n sh hm sp) ho mix (.ra (bz t3) <|.gu fun a0=>have c0:=UK a0 (sh) (hm);.rv 1 [] [] [(14,hK c0 [] [])] (af (bb (bB t9 (aM (c0))) s2) aE) <|.br (fun a1=>.ta [31] (aJ a1 (u2 bn) t3)) (fun a1=>.br (fun a2=>.ta [30,45] (cw (cf a1 (bb a2 (aZ a2 (cc a2))) t3))) (fun a2=>.rb [30,44] (bX a1 (b6 a2 t3 s2)) <|.br (fun a3=>.ta [44,39] (aJ a3 t3 t3)) (fun a3=>.gu fun a4=>.gu fun a5=>.gu fun a6=>.gu fun a7=>have c1:=hfree_ct n (sh) (hm) (sp) a0 a4 a5 a6 a7;.tb [44,38] [] [(33,hK c1 [] [])] [] [] (aJ a3 (ah (aO (aN (aj t9 (k3 (al (c1))))) t2)) t3))))) (by kernel_rfl)) h
theorem hkE_zero{n:Aa}{sh:List Bool}{hm:List Int}(h:hkE n sh hm=0):An n/\hm.length<=8/\hm.all (hmB n)=true/\sh.length=Am n:=by
 unfold hkE at h;split at h
 .rename_i a;split at h
  .rename_i b;exact⟨BF.1 a.1,a.2.1,a.2.2,b⟩
  .omega
 .omega
def freE(n:Aa)(sh:List Bool)(hm:List Int)(sp:Int):Int:=if hkE n sh hm=0 then (if sp<0\/(n.ss.length:Int)<=sp then 19 else 0) else hkE n sh hm
def freZ(n:Aa)(sh:List Bool)(hm:List Int)(sp:Int):Int:=if freE n sh hm sp=0 then plZ n sh hm sp else 0
theorem hFree_ct{n:Aa}(hrw:RwV n)(sh:List Bool)(hm:List Int)(sp:Int):CT Wu 89 [] [Ai n,.lst (boL sh),lI hm,.int .i64 sp] [] (.tup [.int .i64 (freZ n sh hm sp),.int .i64 (freE n sh hm sp)]):=by
 refine hFe_ct n sh hm sp ([],_) (.val ?_);unfold Pb freZ freE;rw[Ab hrw,lsA];by_cases h:hkE n sh hm=0
 .obtain⟨a,b,c,d⟩:=hkE_zero h;rw[Ad (by simp[h]),Vt h];by_cases h0:sp<0
  .have ei:(if sp<0\/(n.ss.length:Int)<=sp then (19:Int) else 0)=19:=Vt (.inl h0);rw[Ah (AA h0),ei];rfl
  by_cases h1:(n.ss.length:Int)<=sp
  .have ei:(if sp<0\/(n.ss.length:Int)<=sp then (19:Int) else 0)=19:=Vt (.inr h1);rw[Ad (AB h0),Ah (AA h1),ei];rfl
  .have ei:(if sp<0\/(n.ss.length:Int)<=sp then (19:Int) else 0)=0:=Vu (by omega);rw[Ad (AB h0),Ad (AB h1),ei,Ab a,Ab d,Ab (by simp only[iN];omega),Ab (by omega),Vt rfl]
 .rw[Ah (by simpa using h),Vu h,Vu h]
inductive Dg where | l0 (v0:Int) | l1 (v0 v1:Int) (v2:List Int) (v3:Nat) (v4:Int)
def gckSt(g:List (List Int))(sh:List Bool):Dg->St | .l0 v0=>St.mk 48 [(0,Wt (gL g)),(1,Wt (boL sh)),(13,Wt (gL g)),(14,iv (iN (gL g).length)),(15,iv v0)] [] | .l1 v0 v1 v2 v3 v4=>St.mk 48 [(0,Wt (gL g)),(1,Wt (boL sh)),(5,iv v0),(7,iv v1),(13,Wt (gL g)),(14,iv (iN (gL g).length)),(15,iv v0),(20,Wt (Wn iv v2)),(21,iv (iN v3)),(22,iv v4)] []
def PF(g:List (List Int))(sh:List Bool):Option (Dg⊕Ret):=br (decide (24<iN (gL g).length)) (none) (some (.inl (.l0 ((0:Int)))))
def IA(g:List (List Int))(sh:List Bool)(v0:Int):Option (Dg⊕Ret):=br (decide (v0<iN (gL g).length)) (gu (0<=v0) <|el g (v0.toNat) fun(x18:List Int)=>some (.inl (.l1 v0 ((-1:Int)) x18 ((Wn iV x18).length) ((0:Int))))) (br (iN (boL sh).length != iN (gL g).length) (none) (some (.inr ([],iV 0))))
def IW(g:List (List Int))(sh:List Bool)(v0 v1:Int)(v2:List Int)(v3:Nat)(v4:Int):Option (Dg⊕Ret):=br (decide (v4<iN v3)) (gu (0<=v4) <|el v2 (v4.toNat) fun(x24:Int)=>br (decide (x24<=v1)) (none) (br (decide (iN (gL g).length<=x24)) (none) (br (x24==v0) (none) (some (.inl (.l1 v0 x24 v2 v3 (i64.wrap (v4+1)))))))) (some (.inl (.l0 (i64.wrap (v0+1)))))
def PZ(g:List (List Int))(sh:List Bool):Dg->Option (Dg⊕Ret) | .l0 v0=>IA g sh v0 | .l1 v0 v1 v2 v3 v4=>IW g sh v0 v1 v2 v3 v4
theorem gck_ct(g:List (List Int))(sh:List Bool)(r:Ret)(h:Ac (PZ g sh) (PF g sh) r):CT Wu 153 ([]) ([.lst (gL g),.lst (boL sh)]) r.1 r.2:=CT.mach (fn:=Tryz.f153) (c:=zB Tryz.f153) (S:=(gckSt g sh)) (hd:=Dg.ctorIdx) Tryz.func153 (by kernel_rfl) (nL rfl) (fun s o ho=>match s,ho with | .l0 v0,ho=>Scr.ok (X:=IA g sh v0) ho mix (.ra bG <|.br (fun a0=>.gu fun a1=>.el fun x18 a2=>.pb [33] [(18,lI x18)] [] [] [] [0,1,5,7,13,14,15,20,21,22] (aj (ab a0 (u2 (aB a1 (Ae (f:=lI) a2) aE)) (u2 cI)) (k2 t9))) (fun a0=>.rb [32] (af a0 (ah aD)) <|.br (fun a1=>.no) (fun a1=>.ta [94] (bO a1)))) (by kernel_rfl) | .l1 v0 v1 v2 v3 v4,ho=>Scr.ok (X:=IW g sh v0 v1 v2 v3 v4) ho mix (.ra bG <|.br (fun a0=>.gu fun a1=>.el fun x24 a2=>.rd [47] [(24,iv x24)] [] (af a0 (aB a1 (Ae (f:=iv) a2) aw)) <|.br (fun a3=>.no) (fun a3=>.br (fun a4=>.no) (fun a4=>.rb [58,70] (aR (bD (bt a3 (aW a3 t3 (cP a4 (bT a4 t3 a4)))))) <|.br (fun a5=>.no) (fun a5=>.pa [58,70,78] [] [0,1,5,7,13,14,15,20,21,22] (bm a5 aw aw (k2 t9)))))) (fun a0=>.pa [46] [] [0,1,13,14,15] (cj a0 t6))) (by kernel_rfl)) (fun o ho=>Scr.ok (X:=PF g sh) ho mix (.rv 1 [] [] [] (bo aE) <|.br (fun a0=>.no) (fun a0=>.pa [24] [] [0,1,13,14,15] (aF a0 bY t6))) (by kernel_rfl)) h
inductive C3 where | l0 (v0:List Int) (v1:Int) | l1 (v0 v1:List Int) | l2 (v0:List Int) (v1:Nat) (v2 v3:Int) (v4:List Int) | l3 (v0:List Int) (v1:Nat) (v2 v3:Int) (v4:Bool) (v5:List Int) (v6:Nat) (v7:Int) (v8:List Int) | l4 (v0 v1:List Int) (v2 v3:Int) | l5 (v0 v1:List Int) (v2 v3:Int) (v4:Bool) (v5:List Int) (v6:Nat) (v7:Int)
def CE(g:List (List Int))(sh:List Bool)(q:Int):C3->St | .l0 v0 v1=>St.mk 86 [(0,Wt (gL g)),(1,Wt (boL sh)),(2,iv q),(7,AV.sl 0 0 v0.length),(19,iv (iN (gL g).length)),(20,iv v1)] [some (bK (Wn iv v0) 1)] | .l1 v0 v1=>St.mk 86 [(0,Wt (gL g)),(1,Wt (boL sh)),(7,AV.sl 0 0 v0.length),(9,Wt (Wn iv v1))] [some (bK (Wn iv v0) 1)] | .l2 v0 v1 v2 v3 v4=>St.mk 86 [(0,Wt (gL g)),(1,Wt (boL sh)),(7,AV.sl 0 0 v0.length),(9,AV.sl 1 0 v1),(10,iv v2),(44,Wt (gL g)),(45,iv (iN (gL g).length)),(46,iv v3)] [some (bK (Wn iv v0) 1),some (bK (Wn iv v4) 1)] | .l3 v0 v1 v2 v3 v4 v5 v6 v7 v8=>St.mk 86 [(0,Wt (gL g)),(1,Wt (boL sh)),(7,AV.sl 0 0 v0.length),(9,AV.sl 1 0 v1),(10,iv v2),(11,iv v3),(44,Wt (gL g)),(45,iv (iN (gL g).length)),(46,iv v3),(57,Wt (boL sh)),(58,iv v3),(59,AV.iptr [bV v4]),(60,bV v4),(62,Wt (Wn iv v5)),(63,iv (iN v6)),(64,iv v7)] [some (bK (Wn iv v0) 1),some (bK (Wn iv v8) 1)] | .l4 v0 v1 v2 v3=>St.mk 86 [(0,Wt (gL g)),(1,Wt (boL sh)),(7,AV.sl 0 0 v0.length),(9,AV.lstc (Wn iv v1)),(10,iv v2),(44,Wt (gL g)),(45,iv (iN (gL g).length)),(46,iv v3)] [some (bK (Wn iv v0) 1)] | .l5 v0 v1 v2 v3 v4 v5 v6 v7=>St.mk 86 [(0,Wt (gL g)),(1,Wt (boL sh)),(7,AV.sl 0 0 v0.length),(9,AV.lstc (Wn iv v1)),(10,iv v2),(11,iv v3),(44,Wt (gL g)),(45,iv (iN (gL g).length)),(46,iv v3),(57,Wt (boL sh)),(58,iv v3),(59,AV.iptr [bV v4]),(60,bV v4),(62,Wt (Wn iv v5)),(63,iv (iN v6)),(64,iv v7)] [some (bK (Wn iv v0) 1)]
def gdsHd:C3->Nat | .l0 _ _=>0 | .l1 _ _=>1 | .l2 _ _ _ _ _=>2 | .l3 _ _ _ _ _ _ _ _ _=>3 | .l4 _ _ _ _=>2 | .l5 _ _ _ _ _ _ _ _=>3
def LN(g:List (List Int))(sh:List Bool)(q:Int):Option (C3⊕Ret):=gu (8 * iN (gL g).length<=281474976710656) <|gu (iN (gL g).length<=9223372036854775807) <|some (.inl (.l0 (Wo (gL g).length 0) ((0:Int))))
def Hr(g:List (List Int))(sh:List Bool)(q:Int)(v0:List Int)(v1:Int):Option (C3⊕Ret):=br (decide (v1<iN (gL g).length)) (gu (0<=v1) <|gu (v1<iN v0.length) <|gu ((0+v1.toNat).succ.le (Wn iV v0).length) <|some (.inl (.l0 (v0.set (0+v1.toNat) (-1)) (i64.wrap (v1+1))))) (gu (0<=q) <|gu (q<iN v0.length) <|gu ((0+q.toNat).succ.le (Wn iV v0).length) <|some (.inl (.l1 (v0.set (0+q.toNat) 0) ([q]))))
def Hh(g:List (List Int))(sh:List Bool)(q:Int)(v0 v1:List Int):Option (C3⊕Ret):=br (decide (0<iN (Wn iV v1).length)) (el v1 (Int.toNat 0) fun(x36:Int)=>gu (∀(e:AV),e∈Wn iV v1->e.cells.length=1) <|gu (1<=iN (Wn iV v1).length) <|some (.inl (.l4 v0 (List.take ((Wn iV v1).length-Int.toNat 1) (List.drop (Int.toNat 1) v1)) x36 ((0:Int))))) (some (.inr ([],Wt (Wn iV v0))))
def HV(g:List (List Int))(sh:List Bool)(q:Int)(v0:List Int)(v1:Nat)(v2 v3:Int)(v4:List Int):Option (C3⊕Ret):=br (decide (v3<iN (gL g).length)) (gu (0<=v3) <|el g (v3.toNat) fun(x49:List Int)=>gu (v3<iN v0.length) <|el v0 (0+v3.toNat) fun(x54:Int)=>br (decide (0<=x54)) (some (.inl (.l2 v0 v1 v2 (i64.wrap (v3+1)) v4))) (el (sh) (v3.toNat) fun(x59:Bool)=>br x59 (some (.inl (.l2 v0 v1 v2 (i64.wrap (v3+1)) v4))) (some (.inl (.l3 v0 v1 v2 v3 x59 x49 ((Wn iV x49).length) ((0:Int)) v4))))) (gu (v1=(Wn iV v4).length) <|some (.inl (.l1 v0 v4)))
def Du(g:List (List Int))(sh:List Bool)(q:Int)(v0:List Int)(v1:Nat)(v2 v3:Int)(v4:Bool)(v5:List Int)(v6:Nat)(v7:Int)(v8:List Int):Option (C3⊕Ret):=br (decide (v7<iN v6)) (gu (0<=v7) <|el v5 (v7.toNat) fun(x66:Int)=>br (x66==v2) (gu (0<=v2) <|gu (v2<iN v0.length) <|el v0 (0+v2.toNat) fun(x76:Int)=>gu (0<=v3) <|gu (v3<iN v0.length) <|gu ((0+v3.toNat).succ.le (Wn iV v0).length) <|gu ((Wn iV v8).length=v1) <|gu ((Wn iV v8).length+[iV v3].length<=9223372036854775807) <|gu (((Wn iV v8).length+[iV v3].length) * 8<=140737488355328) <|some (.inl (.l3 (v0.set (0+v3.toNat) (i64.wrap (x76+1))) ((Wn iV v8).length+[iV v3].length) v2 v3 v4 v5 v6 (i64.wrap (v7+1)) (v8++[v3])))) (some (.inl (.l3 v0 v1 v2 v3 v4 v5 v6 (i64.wrap (v7+1)) v8)))) (some (.inl (.l2 v0 v1 v2 (i64.wrap (v3+1)) v8)))
def GY(g:List (List Int))(sh:List Bool)(q:Int)(v0 v1:List Int)(v2 v3:Int):Option (C3⊕Ret):=br (decide (v3<iN (gL g).length)) (gu (0<=v3) <|el g (v3.toNat) fun(x49:List Int)=>gu (v3<iN v0.length) <|el v0 (0+v3.toNat) fun(x54:Int)=>br (decide (0<=x54)) (some (.inl (.l4 v0 v1 v2 (i64.wrap (v3+1))))) (el (sh) (v3.toNat) fun(x59:Bool)=>br x59 (some (.inl (.l4 v0 v1 v2 (i64.wrap (v3+1))))) (some (.inl (.l5 v0 v1 v2 v3 x59 x49 ((Wn iV x49).length) ((0:Int))))))) (some (.inl (.l1 v0 v1)))
def Gx(g:List (List Int))(sh:List Bool)(q:Int)(v0 v1:List Int)(v2 v3:Int)(v4:Bool)(v5:List Int)(v6:Nat)(v7:Int):Option (C3⊕Ret):=br (decide (v7<iN v6)) (gu (0<=v7) <|el v5 (v7.toNat) fun(x66:Int)=>br (x66==v2) (gu (0<=v2) <|gu (v2<iN v0.length) <|el v0 (0+v2.toNat) fun(x76:Int)=>gu (0<=v3) <|gu (v3<iN v0.length) <|gu ((0+v3.toNat).succ.le (Wn iV v0).length) <|gu (∀(e:AV),e∈Wn iV v1->e.cells.length=1) <|gu ((Wn iV v1).length+[iV v3].length<=9223372036854775807) <|gu (((Wn iV v1).length+[iV v3].length) * 8<=140737488355328) <|some (.inl (.l3 (v0.set (0+v3.toNat) (i64.wrap (x76+1))) ((Wn iV v1).length+[iV v3].length) v2 v3 v4 v5 v6 (i64.wrap (v7+1)) (v1++[v3])))) (some (.inl (.l5 v0 v1 v2 v3 v4 v5 v6 (i64.wrap (v7+1)))))) (some (.inl (.l4 v0 v1 v2 (i64.wrap (v3+1)))))
def Ci(g:List (List Int))(sh:List Bool)(q:Int):C3->Option (C3⊕Ret) | .l0 v0 v1=>Hr g sh q v0 v1 | .l1 v0 v1=>Hh g sh q v0 v1 | .l2 v0 v1 v2 v3 v4=>HV g sh q v0 v1 v2 v3 v4 | .l3 v0 v1 v2 v3 v4 v5 v6 v7 v8=>Du g sh q v0 v1 v2 v3 v4 v5 v6 v7 v8 | .l4 v0 v1 v2 v3=>GY g sh q v0 v1 v2 v3 | .l5 v0 v1 v2 v3 v4 v5 v6 v7=>Gx g sh q v0 v1 v2 v3 v4 v5 v6 v7
theorem gds_ct(g:List (List Int))(sh:List Bool)(q:Int)(r:Ret)(h:Ac (Ci g sh q) (LN g sh q) r):CT Wu 163 ([]) ([.lst (gL g),.lst (boL sh),.int .i64 q]) r.1 r.2:=
 CT.mach (fn:=Tryz.f163) (c:=zB Tryz.f163) (S:=(CE g sh q)) (hd:=gdsHd) Tryz.func163 (by kernel_rfl) (nL rfl)
  (fun s o ho=>match s,ho with
 | .l0 v0 v1,ho=>AJ.ok (X:=Hr g sh q v0 v1) ho mix (
 .rn 0 [] [] [] [] bG <|
 .br (fun a0=>
 .rn 0 [43] [] [] [] (bx a0) <|
 .gu fun a1=>
 .gu fun a2=>
 .gu fun a3=>
 .lq [] [] [] [] [] [0] [0,1,2,7,19,20] (up [(7,AV.sl 0 0 v0.length)] [(0,(Wn iv v0).set (0+v1.toNat) (iv (-1)))] (CE g sh q (.l0 (v0.set (0+v1.toNat) (-1)) (i64.wrap (v1+1))))) (cj (cD (an a1 a2) (ak a3)) t8) (by simp[up,upF,upV,upH,upB,CE,gL,boL,lI]))
 (fun a0=>
 .gu fun a1=>
 .gu fun a2=>
 .gu fun a3=>
 .lq [42] [] [] [] [] [0,1000001] [0,1,7,9] (up [(7,AV.sl 0 0 v0.length)] [(0,(Wn iv v0).set (0+q.toNat) (iv 0))] (CE g sh q (.l1 (v0.set (0+q.toNat) 0) ([q])))) (bm a0 (cD (an a1 a2) (ak a3)) aE (k3 (az (show 1=[iv q].length by simp)))) (by simp[up,upF,upV,upH,upB,CE,gL,boL,lI]))) (by kernel_rfl)
 | .l1 v0 v1,ho=>AJ.ok (X:=Hh g sh q v0 v1) ho mix (
 .rn 0 [] [] [] [] (al aE) <|
 .br (fun a0=>
 .el fun x36 a1=>
 .rn 0 [69] [(36,iv x36)] [] [] (af a0 (aG (aU (Int.le_refl 0) (Ae (f:=iv) a1)) aw)) <|
 .gu fun a2=>
 .gu fun a3=>
 .lq [] [] [] [] [] [0] [0,1,7,9,10,44,45,46] (up [(9,AV.lstc (List.take ((Wn iv v1).length-Int.toNat 1) (List.drop (Int.toNat 1) (Wn iv v1))))] [] (CE g sh q (.l4 v0 (List.take ((Wn iv v1).length-Int.toNat 1) (List.drop (Int.toNat 1) v1)) x36 ((0:Int))))) (aF (u2 (bP (k3 (ab a2 (show(0:Int)<=(1:Int) from(by first | exact nL rfl | decide)) (ab a3 (show iN (Wn iv v1).length=iN (Wn iv v1).length from rfl) (show iN (Wn iv v1).length<=iN (Wn iv v1).length by omega)))) s2)) bY (ak t9)) (by simp[up,upF,upV,upH,upB,CE,gL,boL,lI]))
 (fun a0=>
 .rt [68] [] [] [] [] [0] (aJ a0 aw (show v0.length=(Wn iv v0).length by simp)))) (by kernel_rfl)
 | .l2 v0 v1 v2 v3 v4,ho=>AJ.ok (X:=HV g sh q v0 v1 v2 v3 v4) ho mix (
 .rn 0 [] [] [] [] bG <|
 .br (fun a0=>
 .gu fun a1=>
 .el fun x49 a2=>
 .rn 0 [95] [(49,lI x49)] [] [] (af a0 (u2 (aB a1 (Ae (f:=lI) a2) aE))) <|
 .gu fun a3=>
 .el fun x54 a4=>
 .br (fun a5=>
  .lp [113] [(54,iv x54)] [] [] [] [0,1] [0,1,7,9,10,44,45,46] (bI (aa (b7 (an a1 a3) (Ae (f:=iv) a4) (aa (aC a5 (bW a5))))) aw (k2 t9)))
 (fun a5=>
  .el fun x59 a6=>
  .rn 0 [112] [(54,iv x54),(59,bV x59)] [] [] (aR (b7 (an a1 a3) (Ae (f:=iv) a4) (aa (ai a5 (cn a5 a1 (Ae (f:=bV) a6) (bE a5)))))) <|
  .br (fun a7=>
  .lp [112,123] [] [] [] [] [0,1] [0,1,7,9,10,44,45,46] (cj a7 (k2 t9)))
  (fun a7=>
  .lp [112,122] [] [] [] [] [0,1] [0,1,7,9,10,11,44,45,46,57,58,59,60,62,63,64] (aF a7 bY (k5 aP)))))
 (fun a0=>
 .gu fun a1=>
 .lp [94] [] [] [] [] [0,1000001] [0,1,7,9] (aj (al a0) (k3 (az a1))))) (by kernel_rfl)
 | .l3 v0 v1 v2 v3 v4 v5 v6 v7 v8,ho=>AJ.ok (X:=Du g sh q v0 v1 v2 v3 v4 v5 v6 v7 v8) ho mix (
 .rn 0 [] [] [] [] bG <|
 .br (fun a0=>
 .gu fun a1=>
 .el fun x66 a2=>
 .rn 1 [131] [(66,iv x66)] [] [] (ax a0 (aB a1 (Ae (f:=iv) a2) aw) cM) <|
 .br (fun a3=>
  .gu fun a4=>
  .gu fun a5=>
  .el fun x76 a6=>
  .gu fun a7=>
  .gu fun a8=>
  .gu fun a9=>
  .rn 0 [141] [(76,iv x76)] [] [] (af a3 (ah (b7 (an a4 a5) (Ae (f:=iv) a6) (u2 (af (an a7 a8) (k2 a9)))))) <|
  .gu fun a10=>
  .gu fun a11=>
  .gu fun a12=>
  .lq [] [] [] [] [] [0,3] [0,1,7,9,10,11,44,45,46,57,58,59,60,62,63,64] (up [(7,AV.sl 0 0 v0.length)] [(0,(Wn iv v0).set (0+v3.toNat) (iv (i64.wrap (x76+1)))),(1,Wn iv v8++[iv v3])] (CE g sh q (.l3 (v0.set (0+v3.toNat) (i64.wrap (x76+1))) ((Wn iv v8).length+[iv v3].length) v2 v3 v4 v5 v6 (i64.wrap (v7+1)) (v8++[v3])))) (cj (cH a10 (bv (show nat_lit 1=nat_lit 1 from rfl) (show 1<=[iv v3].length by simp) a11 a12) s2) (k5 aP)) (by simp[up,upF,upV,upH,upB,CE,gL,boL,lI]))
 (fun a3=>
  .lp [140] [] [] [] [] [0,1] [0,1,7,9,10,11,44,45,46,57,58,59,60,62,63,64] (cj a3 (k5 aP))))
 (fun a0=>
 .lp [130] [] [] [] [] [0,1] [0,1,7,9,10,44,45,46] (cj a0 (k2 t9)))) (by kernel_rfl)
 | .l4 v0 v1 v2 v3,ho=>AJ.ok (X:=GY g sh q v0 v1 v2 v3) ho mix (
 .rn 0 [] [] [] [] bG <|
 .br (fun a0=>
 .gu fun a1=>
 .el fun x49 a2=>
 .rn 0 [95] [(49,lI x49)] [] [] (af a0 (u2 (aB a1 (Ae (f:=lI) a2) aE))) <|
 .gu fun a3=>
 .el fun x54 a4=>
 .br (fun a5=>
  .lp [113] [(54,iv x54)] [] [] [] [0] [0,1,7,9,10,44,45,46] (bI (aa (b7 (an a1 a3) (Ae (f:=iv) a4) (aa (aC a5 (bW a5))))) aw (ak t9)))
 (fun a5=>
  .el fun x59 a6=>
  .rn 0 [112] [(54,iv x54),(59,bV x59)] [] [] (aR (b7 (an a1 a3) (Ae (f:=iv) a4) (aa (ai a5 (cn a5 a1 (Ae (f:=bV) a6) (bE a5)))))) <|
  .br (fun a7=>
  .lp [112,123] [] [] [] [] [0] [0,1,7,9,10,44,45,46] (cj a7 (ak t9)))
  (fun a7=>
  .lp [112,122] [] [] [] [] [0] [0,1,7,9,10,11,44,45,46,57,58,59,60,62,63,64] (aF a7 bY (aN aP)))))
 (fun a0=>
 .lp [94] [] [] [] [(9,1000)] [0] [0,1,7,9] (aj (al a0) t6))) (by kernel_rfl)
 | .l5 v0 v1 v2 v3 v4 v5 v6 v7,ho=>AJ.ok (X:=Gx g sh q v0 v1 v2 v3 v4 v5 v6 v7) ho mix (
 .rn 0 [] [] [] [] bG <|
 .br (fun a0=>
 .gu fun a1=>
 .el fun x66 a2=>
 .rn 1 [131] [(66,iv x66)] [] [] (ax a0 (aB a1 (Ae (f:=iv) a2) aw) cM) <|
 .br (fun a3=>
  .gu fun a4=>
  .gu fun a5=>
  .el fun x76 a6=>
  .gu fun a7=>
  .gu fun a8=>
  .gu fun a9=>
  .rn 0 [141] [(76,iv x76)] [] [] (af a3 (ah (b7 (an a4 a5) (Ae (f:=iv) a6) (u2 (af (an a7 a8) (k2 a9)))))) <|
  .gu fun a10=>
  .gu fun a11=>
  .gu fun a12=>
  .lq [] [] [] [] [] [0,2] [0,1,7,9,10,11,44,45,46,57,58,59,60,62,63,64] (up [(7,AV.sl 0 0 v0.length)] [(0,(Wn iv v0).set (0+v3.toNat) (iv (i64.wrap (x76+1)))),(1,Wn iv v1++[iv v3])] (CE g sh q (.l3 (v0.set (0+v3.toNat) (i64.wrap (x76+1))) ((Wn iv v1).length+[iv v3].length) v2 v3 v4 v5 v6 (i64.wrap (v7+1)) (v1++[v3])))) (cj (bb (k2 (ab a10 (aj (show nat_lit 1=nat_lit 1 from rfl) (show 1<=[iv v3].length by simp)) (ab (show 0<[iv v3].length by simp) a11 a12))) s2) (k5 aP)) (by simp[up,upF,upV,upH,upB,CE,gL,boL,lI]))
 (fun a3=>
  .lp [140] [] [] [] [] [0] [0,1,7,9,10,11,44,45,46,57,58,59,60,62,63,64] (cj a3 (aN aP))))
 (fun a0=>
 .lp [130] [] [] [] [] [0] [0,1,7,9,10,44,45,46] (cj a0 (ak t9)))) (by kernel_rfl)
  )
  (fun o ho=>AJ.ok (X:=LN g sh q) ho mix (
 .rn 0 [] [] [] [] s2 <|
 .gu fun a0=>
 .gu fun a1=>
 .lq [] [] [] [] [] [0] [0,1,2,7,19,20] (up [(7,AV.sl 0 0 (gL g).length)] [(0,Wo (gL g).length (iv 0))] (CE g sh q (.l0 (Wo (gL g).length 0) ((0:Int))))) (aF (bN (show 0<=iN (gL g).length from(Int.natCast_nonneg _)) (ab (show iN (gL g).length<=iN (gL g).length by omega) a0 a1) s2) bY t8) (by simp[up,upF,upV,upH,upB,CE,gL,boL,lI])) (by kernel_rfl)) h
def unN:List Int->Nat | []=>0 | x::l=>(if x<0 then 1 else 0)+unN l
theorem Qo:∀{d:List Int} {v:Nat} {x:Int},v<d.length->d.getD v 0<0->0<=x->unN (d.set v x)+1=unN d
 | y::l,0,x,_,h,hx=>by have h:y<0:=h;show(if x<0 then 1 else 0)+unN l+1=(if y<0 then 1 else 0)+unN l;rw[Vu (by omega),Vt h];omega
 | y::l,v+1,x,hv,h,hx=>by have ih:=Qo (d:=l) (v:=v) (x:=x) (Nat.lt_of_succ_lt_succ hv) h hx;show(if y<0 then 1 else 0)+unN (l.set v x)+1=(if y<0 then 1 else 0)+unN l;omega
theorem R6:∀d:List Int,unN d<=d.length
 | []=>VH _
 | x::l=>by have:=R6 l;show(if x<0 then 1 else 0)+unN l<=l.length+1;split<;>omega
theorem Rf{r:List Int}{i m:Int}(h:nxB r i m=true){k:Nat}:∀j,k<j->j<r.length->r.getD k 0<r.getD j 0
 | j+1,h1,h2=>by
  have:=((Da h).2 (j+1) h2).1;unfold Bo at this;rw[Vu (by omega),Vg] at this;rcases Nat.lt_or_eq_of_le (Nat.lt_succ_iff.1 h1) with h3 | h3
  .have:=Rf h j h3 (by omega);omega
  .subst h3;exact this
structure DsQ(g:List (List Int))(q m:Nat)(d o:List Int):Prop where
 p:DsP g q d
 bd:∀v,v<g.length->d.getD v 0+unN d<g.length
 qu:∀x∈o,0<=x/\x<g.length/\0<=d.getD x.toNat 0
 me:o.length+unN d<=m
theorem DsQ.put{g:List (List Int)}{q m:Nat}{d o:List Int}(h:DsQ g q m d o){v w:Nat}(hv:v<g.length)(hw:w<g.length)(hm:(w:Int)∈g.getD v [])(hne:w≠v)(h0:d.getD v 0<0)(h1:0<=d.getD w 0):DsQ g q m (d.set v (d.getD w 0+1)) (o++[(v:Int)]):=by
 have hl:=h.p.len;have hb:=h.bd w hw;have hr:=h.p.rng v hv;have hu:=Qo (d:=d) (v:=v) (x:=d.getD w 0+1) (by omega) h0 (by omega);have e:∀j,(d.set v (d.getD w 0+1)).getD j 0=if v=j then d.getD w 0+1 else d.getD j 0:=fun j=>DJ (by omega)
 refine⟨h.p.set hv hw hm hne ⟨by omega,by omega⟩ (by omega) (.inl (by omega)),fun u hu2=>?_,fun x hx=>?_,?_⟩
 .have:=h.bd u hu2;rw[e];split<;>omega
 .rcases VZ.1 hx with hx | hx
  .have:=h.qu x hx;rw[e];split<;>omega
  .have:=Vn.1 hx;subst this;rw[e,VE,Vt rfl];omega
 .have:=h.me;simp only[VP,V9];omega
abbrev GdR(g:List (List Int))(sh:List Bool)(q:Nat)(X:Option (C3⊕Ret)):Prop:=∃d:{d:List Int // DsP g q d},Ac (Ci g sh q) X (([],lI d.1):Ret)
theorem gds_ex{g:List (List Int)}{sh:List Bool}(hV:VG g)(hs:sh.length=g.length){q:Nat}(hq:q<g.length):GdR g sh q (LN g sh q):=by
 have hg:=hV.ok hs
 have hgl:=B4 g
 have hl:=hg.len
 have one:∀(l:List Int),∀e∈Wn (AV.int .i64) l,e.cells.length=1:=fun l e he=>by obtain⟨x,_,rfl⟩:=V0.1 he;rfl
 -- inner loops:behind the hit
 have a3:∀(v:Nat) (w:Int) (b:Bool) (d o:List Int),v<g.length->GdR g sh q (some (.inl (.l2 d o.length w ((v+1:Nat):Int) o)))->
   ∀(c k:Nat),k+c=(g.getD v []).length->(∀j,k<=j->j<(g.getD v []).length->(g.getD v []).getD j 0≠w)->GdR g sh q (some (.inl (.l3 d o.length w (v:Int) b (g.getD v []) (g.getD v []).length (k:Int) o))):=by
  intro v w b d o hv nx c
  have hrow:=hg.row v hv
  induction c with
  | zero=>
   intro k hk hn
   refine Az (show Ci g sh q (.l3 d o.length w v b (g.getD v []) (g.getD v []).length k o)=Du g sh q d o.length w v b (g.getD v []) (g.getD v []).length k o from rfl) ?_
   unfold Du
   rw[Ad (VA (by simp only[iN];omega)),zW v (by omega)]
   exact nx
  | succ c ih=>
   intro k hk hn
   refine Az (show Ci g sh q (.l3 d o.length w v b (g.getD v []) (g.getD v []).length k o)=Du g sh q d o.length w v b (g.getD v []) (g.getD v []).length k o from rfl) ?_
   have hx:=hn k (VH _) (by omega)
   unfold Du
   rw[Ah (VB (by simp only[iN];omega)),Ab (by omega),VE,Al (Ay 0 (show k<(g.getD v []).length by omega)),Ad (by simpa using hx),zW k (by omega)]
   exact ih (k+1) (by omega) fun j h1 h2=>hn j (by omega) h2
 -- a hit,in either family
 have hit:∀(m v w:Nat) (b:Bool) (d o:List Int),v<g.length->w<g.length->0<=d.getD w 0->d.getD v 0<0->DsQ g q m d o->(∀d o,DsQ g q m d o->0<=d.getD w 0->GdR g sh q (some (.inl (.l2 d o.length (w:Int) ((v+1:Nat):Int) o))))->
   ∀(k:Nat),k<(g.getD v []).length->(g.getD v []).getD k 0=(w:Int)->GdR g sh q (some (.inl (.l3 (d.set v (d.getD w 0+1)) (o.length+1) w (v:Int) b (g.getD v []) (g.getD v []).length ((k+1:Nat):Int) (o++[(v:Int)])))):=by
  intro m v w b d o hv hw hdw hdv hQ nx k hk hkw
  obtain⟨w',h1,h2,h3⟩:=J0 hg hv hk
  have hmem:(w:Int)∈g.getD v []:=by rw[<-hkw];exact Vz (Ay 0 hk)
  have hQ2:=hQ.put hv hw hmem (by omega) hdv hdw
  have hdl:=hQ.p.len
  have:=a3 v w b _ _ hv (nx _ _ hQ2 (by rw[DJ (by omega)];split<;>omega)) ((g.getD v []).length-(k+1)) (k+1) (by omega) fun j hj hj2=>by
   have:=Rf (hV.row v hv) j (show k<j by omega) hj2
   omega
  rwa [VP,V9] at this
 have b3:∀(m v w:Nat) (b:Bool) (d o:List Int),m<=24->v<g.length->w<g.length->0<=d.getD w 0->d.getD v 0<0->DsQ g q m d o->(∀d o,DsQ g q m d o->0<=d.getD w 0->GdR g sh q (some (.inl (.l2 d o.length (w:Int) ((v+1:Nat):Int) o))))->
   ∀(c k:Nat),k+c=(g.getD v []).length->GdR g sh q (some (.inl (.l3 d o.length (w:Int) (v:Int) b (g.getD v []) (g.getD v []).length (k:Int) o))):=by
  intro m v w b d o hm hv hw hdw hdv hQ nx c
  have hrow:=hg.row v hv
  have hdl:=hQ.p.len
  have hom:=hQ.me
  have hbw:=hQ.bd w hw
  induction c with
  | zero=>
   intro k hk
   refine Az (show Ci g sh q (.l3 d o.length w v b (g.getD v []) (g.getD v []).length k o)=Du g sh q d o.length w v b (g.getD v []) (g.getD v []).length k o from rfl) ?_
   unfold Du
   rw[Ad (VA (by simp only[iN];omega)),zW v (by omega)]
   exact nx _ _ hQ hdw
  | succ c ih=>
   intro k hk
   refine Az (show Ci g sh q (.l3 d o.length w v b (g.getD v []) (g.getD v []).length k o)=Du g sh q d o.length w v b (g.getD v []) (g.getD v []).length k o from rfl) ?_
   unfold Du
   rw[Ah (VB (by simp only[iN];omega)),Ab (by omega),VE,Al (Ay 0 (show k<(g.getD v []).length by omega)),zW k (by omega)]
   refine Ak (fun h=>?_) fun _=>ih (k+1) (by omega)
   have h:=beq_iff_eq.1 h
   rw[Ab (by omega),Ab (by simp only[iN];omega),VL,VE,Al (Ay 0 (show w<d.length by omega)),Ab (by omega),Ab (by simp only[iN];omega),VL,VE,Ab (show Nat.le _ _ from by show v+1<=_;simp only[Vy];omega),Ab (Vy _),Ab (by simp only[Vy,V9];omega),Ab (by simp only[Vy,V9];omega),Dt (by omega) (by omega),Vy,V9]
   exact hit m v w b d o hv hw hdw hdv hQ nx k (by omega) h
 have e2:∀(m w:Nat),m<=24->w<g.length->(∀d o,DsQ g q m d o->GdR g sh q (some (.inl (.l1 d o))))->
   ∀(c v:Nat) (d o:List Int),v+c=g.length->DsQ g q m d o->0<=d.getD w 0->GdR g sh q (some (.inl (.l2 d o.length (w:Int) (v:Int) o))):=by
  intro m w hm hw nx c
  induction c with
  | zero=>
   intro v d o hv hQ hdw
   refine Az (show Ci g sh q (.l2 d o.length w v o)=HV g sh q d o.length w v o from rfl) ?_
   unfold HV
   rw[Ad (VA (by simp only[iN];omega)),Ab (Vy _).symm]
   exact nx _ _ hQ
  | succ c ih=>
   intro v d o hv hQ hdw
   have hdl:=hQ.p.len
   have hsh:=hg.sh
   refine Az (show Ci g sh q (.l2 d o.length w v o)=HV g sh q d o.length w v o from rfl) ?_
   unfold HV
   rw[Ah (VB (by simp only[iN];omega)),Ab (by omega),VE,Al (Ay [] (show v<g.length by omega)),Ab (by simp only[iN];omega),VL,Al (Ay 0 (show v<d.length by omega)),zW v (by omega),Al (Ay false (show v<sh.length by omega)),Vy]
   exact Bn (fun _=>ih (v+1) d o (by omega) hQ hdw) fun h=>Ak (fun _=>ih (v+1) d o (by omega) hQ hdw) fun _=>b3 m v w _ d o hm (by omega) hw hdw (by omega) hQ (fun d o hQ hdw=>ih (v+1) d o (by omega) hQ hdw) _ 0 (VL _)
 have b5:∀(m v w:Nat) (b:Bool) (d o:List Int),m<=24->v<g.length->w<g.length->0<=d.getD w 0->d.getD v 0<0->DsQ g q m d o->(∀d o,DsQ g q m d o->0<=d.getD w 0->GdR g sh q (some (.inl (.l2 d o.length (w:Int) ((v+1:Nat):Int) o))))->GdR g sh q (some (.inl (.l4 d o (w:Int) ((v+1:Nat):Int))))->
   ∀(c k:Nat),k+c=(g.getD v []).length->GdR g sh q (some (.inl (.l5 d o (w:Int) (v:Int) b (g.getD v []) (g.getD v []).length (k:Int)))):=by
  intro m v w b d o hm hv hw hdw hdv hQ nx nx4 c
  have hrow:=hg.row v hv
  have hdl:=hQ.p.len
  have hom:=hQ.me
  have hbw:=hQ.bd w hw
  induction c with
  | zero=>
   intro k hk
   refine Az (show Ci g sh q (.l5 d o w v b (g.getD v []) (g.getD v []).length k)=Gx g sh q d o w v b (g.getD v []) (g.getD v []).length k from rfl) ?_
   unfold Gx
   rw[Ad (VA (by simp only[iN];omega)),zW v (by omega)]
   exact nx4
  | succ c ih=>
   intro k hk
   refine Az (show Ci g sh q (.l5 d o w v b (g.getD v []) (g.getD v []).length k)=Gx g sh q d o w v b (g.getD v []) (g.getD v []).length k from rfl) ?_
   unfold Gx
   rw[Ah (VB (by simp only[iN];omega)),Ab (by omega),VE,Al (Ay 0 (show k<(g.getD v []).length by omega)),zW k (by omega)]
   refine Ak (fun h=>?_) fun _=>ih (k+1) (by omega)
   have h:=beq_iff_eq.1 h
   rw[Ab (by omega),Ab (by simp only[iN];omega),VL,VE,Al (Ay 0 (show w<d.length by omega)),Ab (by omega),Ab (by simp only[iN];omega),VL,VE,Ab (show Nat.le _ _ from by show v+1<=_;simp only[Vy];omega),Ab (one o),Ab (by simp only[Vy,V9];omega),Ab (by simp only[Vy,V9];omega),Dt (by omega) (by omega),Vy,V9]
   exact hit m v w b d o hv hw hdw hdv hQ nx k (by omega) h
 have e4:∀(m w:Nat),m<=24->w<g.length->(∀d o,DsQ g q m d o->GdR g sh q (some (.inl (.l1 d o))))->
   ∀(c v:Nat) (d o:List Int),v+c=g.length->DsQ g q m d o->0<=d.getD w 0->GdR g sh q (some (.inl (.l4 d o (w:Int) (v:Int)))):=by
  intro m w hm hw nx c
  induction c with
  | zero=>
   intro v d o hv hQ hdw
   refine Az (show Ci g sh q (.l4 d o w v)=GY g sh q d o w v from rfl) ?_
   unfold GY
   rw[Ad (VA (by simp only[iN];omega))]
   exact nx _ _ hQ
  | succ c ih=>
   intro v d o hv hQ hdw
   have hdl:=hQ.p.len
   have hsh:=hg.sh
   refine Az (show Ci g sh q (.l4 d o w v)=GY g sh q d o w v from rfl) ?_
   unfold GY
   rw[Ah (VB (by simp only[iN];omega)),Ab (by omega),VE,Al (Ay [] (show v<g.length by omega)),Ab (by simp only[iN];omega),VL,Al (Ay 0 (show v<d.length by omega)),zW v (by omega),Al (Ay false (show v<sh.length by omega)),Vy]
   exact Bn (fun _=>ih (v+1) d o (by omega) hQ hdw) fun h=>Ak (fun _=>ih (v+1) d o (by omega) hQ hdw) fun _=>b5 m v w _ d o hm (by omega) hw hdw (by omega) hQ (fun d o hQ hdw=>e2 m w hm hw nx c (v+1) d o (by omega) hQ hdw) (ih (v+1) d o (by omega) hQ hdw) _ 0 (VL _)
 have e1:∀(m:Nat),m<=24->∀(d o:List Int),DsQ g q m d o->GdR g sh q (some (.inl (.l1 d o))):=by
  intro m
  induction m with
  | zero=>
   intro _ d o hQ
   have hom:=hQ.me
   refine Az (show Ci g sh q (.l1 d o)=Hh g sh q d o from rfl) ?_
   unfold Hh
   rw[Ad (VA (by simp only[iN,Vy];omega))]
   exact⟨⟨d,hQ.p⟩,.ret _⟩
  | succ m ih=>
   intro hm d o hQ
   refine Az (show Ci g sh q (.l1 d o)=Hh g sh q d o from rfl) ?_
   unfold Hh
   cases o with
   | nil=>
    rw[Ad (VA (by simp[iN]))]
    exact⟨⟨d,hQ.p⟩,.ret _⟩
   | cons x r=>
    obtain⟨h0,h1,h2⟩:=hQ.qu x (List.mem_cons_self)
    have hom:=hQ.me
    simp only[Wa] at hom
    obtain⟨w,rfl⟩:∃w:Nat,x=(w:Int):=⟨x.toNat,by omega⟩
    rw[Ah (VB (by simp only[iN,Vy,Wa];omega)),Al (show((w:Int)::r)[Int.toNat 0]?=some (w:Int) from rfl),Ab (one _),Ab (by simp only[iN,Vy,Wa];omega)]
    have e:List.take ((Wn (AV.int .i64) ((w:Int)::r)).length-Int.toNat 1) (List.drop (Int.toNat 1) ((w:Int)::r))=r:=by
     rw[Vy];show List.take (r.length+1-1) r=r;rw[Vg,List.take_length]
    rw[e]
    exact e4 m w (by omega) (by omega) (ih (by omega)) g.length 0 d r (VL _) ⟨hQ.p,hQ.bd,fun y hy=>hQ.qu y (VN _ hy),by omega⟩ (by rw[VE] at h2;exact h2)
 have hlow:∀(d:List Int),d.length=g.length->(∀v,v<g.length->d.getD v 0 = -1)->DsQ g q g.length (d.set q 0) [(q:Int)]:=fun d hd h=>by
  have e:∀j,(d.set q 0).getD j 0=if q=j then 0 else d.getD j 0:=fun j=>DJ (by omega)
  have hu:=Qo (d:=d) (v:=q) (x:=0) (by omega) (by have:=h q hq;omega) (by omega)
  have hu2:=R6 d
  refine⟨⟨by rw[V4];exact hd,fun v hv=>?_,fun v hv=>?_,fun v hv=>?_⟩,fun v hv=>?_,fun x hx=>?_,by simp only[V9];omega⟩
  .have:=h v hv;rw[e];split<;>omega
  .have:=h v hv;rw[e];split<;>intro _<;>omega
  .have:=h v hv;rw[e];split
   .intro _;omega
   .intro _;omega
  .have:=h v hv;rw[e];split<;>omega
  .have:=Vn.1 hx
   subst this
   rw[e,VE,Vt rfl];omega
 have e0:∀(m i:Nat) (d:List Int),i+m=g.length->d.length=g.length->(∀v,v<i->d.getD v 0 = -1)->GdR g sh q (some (.inl (.l0 d (i:Int)))):=by
  intro m
  induction m with
  | zero=>
   intro i d hi hd hf
   refine Az (show Ci g sh q (.l0 d i)=Hr g sh q d i from rfl) ?_
   unfold Hr
   rw[Ad (VA (by simp only[iN];omega)),Ab (by omega),Ab (by simp only[iN];omega),Ab (show Nat.le _ _ from by show 0+(q:Int).toNat+1<=_;simp only[Vy];omega),VL,VE]
   exact e1 g.length hl _ _ (hlow d hd fun v hv=>hf v (by omega))
  | succ m ih=>
   intro i d hi hd hf
   refine Az (show Ci g sh q (.l0 d i)=Hr g sh q d i from rfl) ?_
   unfold Hr
   rw[Ah (VB (by simp only[iN];omega)),Ab (by omega),Ab (by simp only[iN];omega),Ab (show Nat.le _ _ from by show 0+(i:Int).toNat+1<=_;simp only[Vy];omega),zW i (by omega),VL,VE]
   refine ih (i+1) _ (by omega) (by rw[V4];exact hd) fun v hv=>?_
   rw[DJ (by omega)]
   split
   .rfl
   .exact hf v (by omega)
 unfold LN
 exact Ag (by simp only[iN];omega) (Ag (by simp only[iN];omega) (e0 g.length 0 _ (VL _) (by rw[VQ,hgl]) fun v hv=>by omega))
theorem OE(g:List (List Int))(sh:List Bool)(q:Int):∃d:List Int,VG g->sh.length=g.length->0<=q->q<(g.length:Int)->DsP g q.toNat d/\CT Wu 163 [] [.lst (gL g),.lst (boL sh),.int .i64 q] [] (lI d):=by
 by_cases h:VG g/\sh.length=g.length/\0<=q/\q<(g.length:Int)
 .obtain⟨d,hd⟩:=gds_ex h.1 h.2.1 (q:=q.toNat) (by omega);rw[VW h.2.2.1] at hd;exact⟨d.1,fun _ _ _ _=>⟨d.2,gds_ct g sh q _ hd⟩⟩
 .exact⟨[],fun a b c d=>absurd ⟨a,b,c,d⟩ h⟩
@[irreducible] def gdL(g:List (List Int))(sh:List Bool)(q:Int):List Int:=Classical.choose (OE g sh q)
theorem gd_p{g:List (List Int)}{sh:List Bool}{q:Int}(hg:VG g)(hs:sh.length=g.length)(h0:0<=q)(h1:q<(g.length:Int)):DsP g q.toNat (gdL g sh q):=by unfold gdL;exact(V8 (OE g sh q) hg hs h0 h1).1
theorem gd_c(g:List (List Int))(sh:List Bool)(q:Int)(hg:VG g)(hs:sh.length=g.length)(h0:0<=q)(h1:q<(g.length:Int)):CT Wu 163 [] [.lst (gL g),.lst (boL sh),.int .i64 q] [] (lI (gdL g sh q)):=by unfold gdL;exact(V8 (OE g sh q) hg hs h0 h1).2
theorem gck_v{g:List (List Int)}(hV:VG g){sh:List Bool}(hs:sh.length=g.length):CT Wu 153 [] [.lst (gL g),.lst (boL sh)] [] (.int .i64 0):=by
 have hl:=hV.len;have hgl:=B4 g;have hbl:=A5 sh;refine gck_ct g sh ([],_) ?_;unfold PF;rw[Ad (VA (by simp only[iN];omega))];refine Bb (fun i=>Dg.l0 (i:Int)) g.length (fun v hv hr=>?_) ?_
 .have hrow:=Da (hV.row v hv);refine .to (show PZ g sh (.l0 v)=IA g sh v from rfl) ?_;unfold IA;rw[Ah (VB (by simp only[iN];omega)),Ab (by omega),VE,Al (Ay [] hv),Vy];have e0:(some (.inl (Dg.l1 (v:Int) (-1) (g.getD v []) (g.getD v []).length 0)):Option (Dg⊕Ret))=some (.inl (.l1 (v:Int) (Bo (g.getD v []) 0) (g.getD v []) (g.getD v []).length ((0:Nat):Int))):=rfl;rw[e0];refine Bb (fun k=>Dg.l1 (v:Int) (Bo (g.getD v []) k) (g.getD v []) (g.getD v []).length (k:Int)) (g.getD v []).length (fun k hk hr=>?_) ?_
  .obtain⟨h1,h2,h3⟩:=hrow.2 k hk;refine .to (show _=IW g sh v (Bo (g.getD v []) k) (g.getD v []) (g.getD v []).length k from rfl) ?_;unfold IW;rw[Ah (VB (by simp only[iN];omega)),Ab (by omega),VE,Al (Ay 0 hk),Ad (VA (by omega)),Ad (VA (by simp only[iN];omega)),Ad (by simpa using h3),zW k (by omega)];have e:Bo (g.getD v []) (k+1)=(g.getD v []).getD k 0:=by unfold Bo;rw[Vu (by omega),Vg]
   rw[e] at hr;exact hr
  .refine .to (show _=IW g sh v (Bo (g.getD v []) (g.getD v []).length) (g.getD v []) (g.getD v []).length (g.getD v []).length from rfl) ?_;unfold IW;rw[Ad (VA (by simp only[iN];omega)),zW v (by omega)];exact hr
 .refine .to (show PZ g sh (.l0 (g.length:Int))=IA g sh g.length from rfl) ?_;unfold IA;rw[Ad (VA (by simp only[iN];omega)),Ad (by simp only[iN,hgl,hbl,hs];simp)];exact .ret _
inductive F8 where | l0 (v0:List Int) (v1:Int) | l1 (v0:List Int) (v1:Int) (v2:List Int) (v3:Nat) (v4:Int)
def NU(g:List (List Int))(sh:List Bool)(q:Int):F8->St | .l0 v0 v1=>St.mk 68 [(0,Wt (gL g)),(2,iv q),(7,Wt (Wn iv (gdL g sh q))),(8,AV.sl 0 0 v0.length),(9,iv v1)] [some (bK (Wn iv v0) 1)] | .l1 v0 v1 v2 v3 v4=>St.mk 68 [(0,Wt (gL g)),(2,iv q),(7,Wt (Wn iv (gdL g sh q))),(8,AV.sl 0 0 v0.length),(10,iv v1),(27,Wt (Wn iv v2)),(28,iv (iN v3)),(29,iv v4)] [some (bK (Wn iv v0) 1)]
def LY(g:List (List Int))(sh:List Bool)(q:Int):Option (F8⊕Ret):=gu (0<=q) <|el (sh) (q.toNat) fun(x15:Bool)=>br x15 (some (.inr ([],AV.nils))) (gu (VG g) <|gu (sh.length=g.length) <|gu (q<iN g.length) <|some (.inl (.l0 ([q]) q)))
def Me(g:List (List Int))(sh:List Bool)(q:Int)(v0:List Int)(v1:Int):Option (F8⊕Ret):=gu (0<=v1) <|el g (v1.toNat) fun(x26:List Int)=>some (.inl (.l1 v0 ((-1:Int)) x26 ((Wn iV x26).length) ((0:Int))))
def Hg(g:List (List Int))(sh:List Bool)(q:Int)(v0:List Int)(v1:Int)(v2:List Int)(v3:Nat)(v4:Int):Option (F8⊕Ret):=br (decide (v4<iN v3)) (gu (0<=v4) <|el v2 (v4.toNat) fun(x31:Int)=>gu (0<=x31) <|el (gdL g sh q) (x31.toNat) fun(x35:Int)=>br (decide (0<=x35)) (br (decide (v1<0)) (some (.inl (.l1 v0 x31 v2 v3 (i64.wrap (v4+1))))) (el (gdL g sh q) (x31.toNat) fun(x44:Int)=>gu (0<=v1) <|el (gdL g sh q) (v1.toNat) fun(x48:Int)=>br (decide (x44<x48)) (some (.inl (.l1 v0 x31 v2 v3 (i64.wrap (v4+1))))) (some (.inl (.l1 v0 v1 v2 v3 (i64.wrap (v4+1))))))) (some (.inl (.l1 v0 v1 v2 v3 (i64.wrap (v4+1)))))) (br (decide (v1<0)) (some (.inr ([],AV.nils))) (br (v1==q) (some (.inr ([],Wt (Wn iV v0)))) (gu ((Wn iV v0).length+[iV v1].length<=9223372036854775807) <|gu (((Wn iV v0).length+[iV v1].length) * 8<=140737488355328) <|some (.inl (.l0 (v0++[v1]) v1)))))
def Gc(g:List (List Int))(sh:List Bool)(q:Int):F8->Option (F8⊕Ret) | .l0 v0 v1=>Me g sh q v0 v1 | .l1 v0 v1 v2 v3 v4=>Hg g sh q v0 v1 v2 v3 v4
theorem S1(g:List (List Int))(sh:List Bool)(q:Int)(r:Ret)(h:Ac (Gc g sh q) (LY g sh q) r):CT Wu 154 ([]) ([.lst (gL g),.lst (boL sh),.int .i64 q]) r.1 r.2:=CT.mach (fn:=Tryz.f154) (c:=zB Tryz.f154) (S:=(NU g sh q)) (hd:=F8.ctorIdx) Tryz.func154 (by kernel_rfl) (nL rfl) (fun s o ho=>match s,ho with | .l0 v0 v1,ho=>Scr.ok (X:=Me g sh q v0 v1) ho mix (.ra s2 <|.gu fun a0=>.el fun x26 a1=>.pb [] [(26,lI x26)] [] [] [0] [0,2,7,8,10,27,28,29] (aj (aR (aB a0 (Ae (f:=lI) a1) bY)) (ak t9))) (by kernel_rfl) | .l1 v0 v1 v2 v3 v4,ho=>Scr.ok (X:=Hg g sh q v0 v1 v2 v3 v4) ho mix (.ra bG <|.br (fun a0=>.gu fun a1=>.el fun x31 a2=>.rd [61] [(31,iv x31)] [] (af a0 (aB a1 (Ae (f:=iv) a2) aw)) <|.gu fun a3=>.el fun x35 a4=>.br (fun a5=>.br (fun a6=>.pb [77,83] [(35,iv x35)] [] [] [0] [0,2,7,8,10,27,28,29] (ar (bN a3 (Ae (f:=iv) a4) (am (bt a5 (aZ a6 (aZ a6 (aV a6 (bq a5 a6) a5)))))) (bc aw aw) (ak t9))) (fun a6=>.el fun x44 a7=>.gu fun a8=>.el fun x48 a9=>.rd [77,82] [(35,iv x35),(44,iv x44),(48,iv x48)] [] (aR (aB a3 (Ae (f:=iv) a4) (am (ag a5 (aA a5 a6 (cn a6 a3 (Ae (f:=iv) a7) (ai a6 (cn a6 a8 (Ae (f:=iv) a9) (aV (aj a6 t3) (bq a5 a6) a5))))))))) <|.br (fun a10=>.pa [77,82,105] [0] [0,2,7,8,10,27,28,29] (bm a10 aw aw (ak t9))) (fun a10=>.pa [77,82,104] [0] [0,2,7,8,10,27,28,29] (cj a10 (ak t9))))) (fun a5=>.pb [76] [(35,iv x35)] [] [] [0] [0,2,7,8,10,27,28,29] (bI (bN a3 (Ae (f:=iv) a4) (bb a5 (aC a5 (aN (k5 (be a5 a5)))))) aw (ak t9)))) (fun a0=>.rb [60] (af a0 aE) <|.br (fun a1=>.ta [111] (bO a1)) (fun a1=>.rb [110] (af a1 (bg t3 s2)) <|.br (fun a2=>.tc [117] [] [0] (aJ a2 aw (show v0.length=(Wn iv v0).length by simp))) (fun a2=>.gu fun a3=>.gu fun a4=>.lq [116] [] [] [] [] [2] [0,2,7,8,9] (up [(8,AV.sl 0 0 ((Wn iv v0).length+[iv v1].length))] [(0,Wn iv v0++[iv v1])] (NU g sh q (.l0 (v0++[v1]) v1))) (aF a2 (cH (show(Wn iv v0).length=v0.length by simp) (bv (show nat_lit 1=nat_lit 1 from rfl) (show 1<=[iv v1].length by simp) a3 a4) aE) t7) (by simp[up,upF,upV,upH,upB,NU,gL,boL,lI]))))) (by kernel_rfl)) (fun o ho=>Scr.ok (X:=LY g sh q) ho mix (.ra s2 <|.gu fun a0=>.el fun x15 a1=>.rd [] [(15,bV x15)] [] (aR (aB a0 (Ae (f:=bV) a1) s2)) <|.br (fun a2=>.ta [33] (bO a2)) (fun a2=>.gu fun a3=>.gu fun a4=>.gu fun a5=>have c0:=gd_c g (sh) q a3 a4 a0 a5;.pb [32] [] [(20,hK c0 [] [])] [] [0] [0,2,7,8,9] (bm a2 (bb (bL (al (c0))) s2) ba t7))) (by kernel_rfl)) h
theorem gth_ex{g:List (List Int)}{sh:List Bool}(hV:VG g)(hs:sh.length=g.length){q:Nat}(hq:q<g.length):∃o:OL,Ac (Gc g sh q) (LY g sh q) (olR o):=by
 have hg:=hV.ok hs;have hl:=hg.len;have h1:(q:Int)<(g.length:Int):=by omega
 have hd:=gd_p hV hs (Int.natCast_nonneg q) h1;have hdl:=hd.len;rw[VE] at hd;have key:∀(m u:Nat) (W:List Int),u<g.length->W.length+m<=60->(((gdL g sh q).getD u 0=m/\0<m)\/24<m)->∃o:OL,Ac (Gc g sh q) (some (.inl (.l0 W (u:Int)))) (olR o):=by
  intro m;induction m using Nat.strongRecOn with
  | _ m ih=>
   intro u W hu hW hm;have hrow:=(hg.row u hu).1;have er:=Ay [] hu
   have e1:∀(c k:Nat) (b:Int),k+c=(g.getD u []).length->(b<0\/0<=b/\b<g.length/\0<=(gdL g sh q).getD b.toNat 0)->(∀j w:Nat,j<k->(g.getD u []).getD j 0=(w:Int)->0<=(gdL g sh q).getD w 0->0<=b/\(gdL g sh q).getD b.toNat 0<=(gdL g sh q).getD w 0)->
     ∃o:OL,Ac (Gc g sh q) (some (.inl (.l1 W b (g.getD u []) (g.getD u []).length (k:Int)))) (olR o):=by
    intro c;induction c with
    | zero=>
     intro k b hk hb hmin;refine Az (show Gc g sh q (.l1 W b (g.getD u []) (g.getD u []).length k)=Hg g sh q W b (g.getD u []) (g.getD u []).length k from rfl) ?_;unfold Hg;rw[Ad (VA (by simp only[iN];omega))];refine Bn (fun _=>K1) fun hb0=>Ak (fun _=>⟨⟨some W,fun l h=>by cases h;omega⟩,.ret _⟩) fun hbq=>?_
     have hb:=hb.resolve_left hb0;obtain⟨w,rfl⟩:∃w:Nat,b=(w:Int):=⟨b.toNat,by omega⟩;rw[VE] at hb hmin;have hwq:w≠q:=fun e=>by subst e;simp at hbq
     have hz:=hd.zer w (by omega);have hr:=hd.rng w (by omega);have hlt:(gdL g sh q).getD w 0<m:=by
      rcases hm with hm | hm
      .obtain⟨t,t1,t2,t3⟩:=hd.stp u hu (by omega);obtain⟨j,hj,ej⟩:=V7.1 t1;have:=hmin j t (by omega) (by rw[Fg hj];exact ej) (by omega);omega
      .omega
     refine Ag (by simp only[Vy,V9];omega) (Ag (by simp only[Vy,V9];omega) ?_);exact ih ((gdL g sh q).getD w 0).toNat (by omega) w _ (by omega) (by simp only[VP,V9];omega) (.inl ⟨by omega,by omega⟩)
    | succ c ihc=>
     intro k b hk hb hmin;obtain⟨w,hw1,hw2,_⟩:=J0 hg hu (i:=k) (by omega);have ew:=Ay 0 (show k<(g.getD u []).length by omega);rw[hw1] at ew;have edw:=Ay 0 (show w<(gdL g sh q).length by omega);refine Az (show Gc g sh q (.l1 W b (g.getD u []) (g.getD u []).length k)=Hg g sh q W b (g.getD u []) (g.getD u []).length k from rfl) ?_;unfold Hg;rw[Ah (VB (by simp only[iN];omega)),Ab (by omega),VE,Al ew,Ab (by omega),VE,Al edw,zW k (by omega),Al edw];have lst:∀{j v:Nat},j<k+1->(g.getD u []).getD j 0=(v:Int)->¬j<k->v=w:=fun {j v} h2 h3 h4=>by
      have:j=k:=by omega
      subst this;omega
     refine Bn (fun h=>Bn (fun hb0=>?_) fun hb0=>?_) fun h=>?_
     .refine ihc (k+1) w (by omega) (.inr ⟨by omega,by omega,by rw[VE];exact h⟩) fun j v hj e hv=>?_
      by_cases hjk:j<k
      .have:=hmin j v hjk e hv;omega
      .rw[lst hj e hjk,VE];omega
     .have hb1:=hb.resolve_left hb0;rw[Ab (by omega),Al (Ay 0 (show b.toNat<(gdL g sh q).length by omega))];refine Bn (fun h2=>?_) fun h2=>?_
      .refine ihc (k+1) w (by omega) (.inr ⟨by omega,by omega,by rw[VE];exact h⟩) fun j v hj e hv=>?_
       rw[VE];by_cases hjk:j<k
       .have:=hmin j v hjk e hv;omega
       .rw[lst hj e hjk];omega
      .refine ihc (k+1) b (by omega) hb fun j v hj e hv=>?_
       by_cases hjk:j<k
       .exact hmin j v hjk e hv
       .rw[lst hj e hjk];omega
     .refine ihc (k+1) b (by omega) hb fun j v hj e hv=>?_
      by_cases hjk:j<k
      .exact hmin j v hjk e hv
      .rw[lst hj e hjk] at hv;exact absurd hv h
   refine Az (show Gc g sh q (.l0 W u)=Me g sh q W u from rfl) ?_;unfold Me;rw[Ab (by omega),VE,Al er,Vy];exact e1 _ 0 (-1) (VL _) (.inl (by omega)) fun j w hj=>absurd hj (Wl _)
 unfold LY;refine Ag (by omega) ?_;rw[VE,Al (Ay false (show q<sh.length by omega))];exact Ak (fun _=>K1) fun _=>Ag hV (Ag hs (Ag (by simp only[iN];omega) (key 50 q [(q:Int)] hq (by simp) (.inr (by omega)))))
theorem MV(g:List (List Int))(sh:List Bool)(q:Int):∃l:List Int,VG g->sh.length=g.length->0<=q->q<(g.length:Int)->l.length<=60/\CT Wu 154 [] [.lst (gL g),.lst (boL sh),.int .i64 q] [] (lI l):=by
 by_cases h:VG g/\sh.length=g.length/\0<=q/\q<(g.length:Int)
 .obtain⟨a,b,c,d⟩:=h;obtain⟨⟨o,ho⟩,hd⟩:=gth_ex a b (q:=q.toNat) (by omega);rw[VW c] at hd;cases o with
  | none=>exact⟨[],fun _ _ _ _=>⟨VI _,(S1 g sh q ([],.nils) hd).to rfl rfl⟩⟩
  | some l=>exact⟨l,fun _ _ _ _=>⟨ho l rfl,S1 g sh q _ hd⟩⟩
 .exact⟨[],fun a b c d=>absurd ⟨a,b,c,d⟩ h⟩
@[irreducible] def gtL(g:List (List Int))(sh:List Bool)(q:Int):List Int:=Classical.choose (MV g sh q)
theorem gt_p{g:List (List Int)}{sh:List Bool}{q:Int}(hg:VG g)(hs:sh.length=g.length)(h0:0<=q)(h1:q<(g.length:Int)):(gtL g sh q).length<=60:=by unfold gtL;exact(V8 (MV g sh q) hg hs h0 h1).1
theorem gt_c(g:List (List Int))(sh:List Bool)(q:Int)(hg:VG g)(hs:sh.length=g.length)(h0:0<=q)(h1:q<(g.length:Int)):CT Wu 154 [] [.lst (gL g),.lst (boL sh),.int .i64 q] [] (lI (gtL g sh q)):=by unfold gtL;exact(V8 (MV g sh q) hg hs h0 h1).2
inductive Fl where | l0 (v0:List Int) (v1:Int) | l1 (v0:Int)
def ggiSt(g:List (List Int))(sh:List Bool):Fl->St | .l0 v0 v1=>St.mk 45 [(0,Wt (gL g)),(1,Wt (boL sh)),(8,Wt (Wn iv v0)),(18,iv (iN (gL g).length)),(19,iv v1)] [] | .l1 v0=>St.mk 45 [(0,Wt (gL g)),(1,Wt (boL sh)),(8,AV.nils),(18,iv (iN (gL g).length)),(19,iv v0)] []
def ggiHd:Fl->Nat | .l0 _ _=>0 | .l1 _=>0
def KJ(g:List (List Int))(sh:List Bool):Option (Fl⊕Ret):=gu (VG g) <|gu (sh.length=g.length) <|some (.inl (.l1 ((0:Int))))
def Jf(g:List (List Int))(sh:List Bool)(v0:List Int)(v1:Int):Option (Fl⊕Ret):=br (decide (v1<iN (gL g).length)) (gu (VG g) <|gu (sh.length=g.length) <|gu (0<=v1) <|gu (v1<iN g.length) <|br (decide (0<iN (Wn iV (gtL g sh v1)).length)) (gu (Wn iV v0=[]->False) <|br (decide (iN (Wn iV (gtL g sh v1)).length<iN (Wn iV v0).length)) (some (.inl (.l0 (gtL g sh v1) (i64.wrap (v1+1))))) (some (.inl (.l0 v0 (i64.wrap (v1+1)))))) (some (.inl (.l0 v0 (i64.wrap (v1+1)))))) (some (.inr ([],AV.tup [iV (iN (Wn iV v0).length),Wt (Wn iV v0),iV 0])))
def GU(g:List (List Int))(sh:List Bool)(v0:Int):Option (Fl⊕Ret):=br (decide (v0<iN (gL g).length)) (gu (VG g) <|gu (sh.length=g.length) <|gu (0<=v0) <|gu (v0<iN g.length) <|br (decide (0<iN (Wn iV (gtL g sh v0)).length)) (some (.inl (.l0 (gtL g sh v0) (i64.wrap (v0+1))))) (some (.inl (.l1 (i64.wrap (v0+1)))))) (some (.inr ([],AV.tup [iV 0,AV.nils,iV 0])))
def Ey(g:List (List Int))(sh:List Bool):Fl->Option (Fl⊕Ret) | .l0 v0 v1=>Jf g sh v0 v1 | .l1 v0=>GU g sh v0
theorem RD(g:List (List Int))(sh:List Bool)(r:Ret)(h:Ac (Ey g sh) (KJ g sh) r):CT Wu 135 ([]) ([.lst (gL g),.lst (boL sh)]) r.1 r.2:=CT.mach (fn:=Tryz.f135) (c:=zB Tryz.f135) (S:=(ggiSt g sh)) (hd:=ggiHd) Tryz.func135 (by kernel_rfl) (nL rfl) (fun s o ho=>match s,ho with | .l0 v0 v1,ho=>Scr.ok (X:=Jf g sh v0 v1) ho mix (.ra bG <|.br (fun a0=>.rb [41] (bx a0) <|.gu fun a1=>.gu fun a2=>.gu fun a3=>.gu fun a4=>have c0:=gt_c g (sh) v1 a1 a2 a3 a4;.rc [(25,hK c0 [] [])] (aL (aj (bL (al (c0))) s2)) <|.br (fun a5=>.gu fun a6=>.rb [59] (bC (ag a5 (aW a5 (ak a6) (cK (cK (aV t4 (aj a5 t3) a5)))))) <|.br (fun a7=>.pa [59,79] [] [0,1,8,18,19] (bm a7 aw aw t6)) (fun a7=>.pa [59,78] [] [0,1,8,18,19] (cj a7 t6))) (fun a5=>.pa [58] [] [0,1,8,18,19] (bI (bP a5 (aC a5 (k5 (be a5 a5)))) aw t6))) (fun a0=>.ta [40] (aJ a0 (cb t2) t4))) (by kernel_rfl) | .l1 v0,ho=>Scr.ok (X:=GU g sh v0) ho mix (.ra bG <|.br (fun a0=>.rb [41] (bx a0) <|.gu fun a1=>.gu fun a2=>.gu fun a3=>.gu fun a4=>have c0:=gt_c g (sh) v0 a1 a2 a3 a4;.rc [(25,hK c0 [] [])] (aL (aj (bL (al (c0))) s2)) <|.br (fun a5=>.pb [59] [] [] [(30,1000)] [] [0,1,8,18,19] (ar (ah (bt a5 (k5 (bT a5 t3 a5)))) (bc aw aw) t6)) (fun a5=>.pa [58] [] [0,1,8,18,19] (bI (bP a5 (aC a5 (k5 (be a5 a5)))) aw t6))) (fun a0=>.ta [40] (aJ a0 (cb t2) t4))) (by kernel_rfl)) (fun o ho=>Scr.ok (X:=KJ g sh) ho mix (.ra (al t4) <|.gu fun a0=>.gu fun a1=>have c0:=gck_v a0 a1;.pb [] [] [(13,hK c0 [] [])] [] [] [0,1,8,18,19] (aj (ab (bg (bu (c0)) s2) aw (ak (u2 cI))) t6)) (by kernel_rfl)) h
def giR(o:OL):Ret:=([],match o.1 with | none=>.tup [.int .i64 0,.nils,.int .i64 0] | some l=>.tup [.int .i64 (iN l.length),lI l,.int .i64 0])
theorem ggi_ex{g:List (List Int)}{sh:List Bool}(hV:VG g)(hs:sh.length=g.length):∃o:OL,Ac (Ey g sh) (KJ g sh) (giR o):=by
 have hgl:=B4 g;have hl:=hV.len;have ht:∀v:Nat,v<g.length->(gtL g sh v).length<=60:=fun v hv=>gt_p hV hs (Int.natCast_nonneg v) (by omega)
 have e0:∀(c v:Nat) (W:List Int),v+c=g.length->0<W.length->W.length<=60->∃o:OL,Ac (Ey g sh) (some (.inl (.l0 W (v:Int)))) (giR o):=by
  intro c;induction c with
  | zero=>intro v W hv _ hW;refine Az (show Ey g sh (.l0 W v)=Jf g sh W v from rfl) ?_;unfold Jf;rw[Ad (VA (by simp only[iN];omega)),Vy];exact⟨⟨some W,fun l h=>by cases h;exact hW⟩,.ret _⟩
  | succ c ih=>intro v W hv hp hW;have hv1:=ht v (by omega);refine Az (show Ey g sh (.l0 W v)=Jf g sh W v from rfl) ?_;unfold Jf;rw[Ah (VB (by simp only[iN];omega)),Ab hV,Ab hs,Ab (by omega),Ab (by simp only[iN];omega),zW v (by omega),Vy];refine Bn (fun h=>Ag (fun e=>by rw[List.map_eq_nil_iff] at e;subst e;cases hp) (Ak (fun _=>ih (v+1) _ (by omega) (by simp only[iN] at h;omega) hv1) fun _=>ih (v+1) W (by omega) hp hW)) fun _=>ih (v+1) W (by omega) hp hW
 have e1:∀(c v:Nat),v+c=g.length->∃o:OL,Ac (Ey g sh) (some (.inl (.l1 (v:Int)))) (giR o):=by
  intro c;induction c with
  | zero=>intro v hv;refine Az (show Ey g sh (.l1 v)=GU g sh v from rfl) ?_;unfold GU;rw[Ad (VA (by simp only[iN];omega))];exact⟨⟨none,fun l h=>by cases h⟩,.ret _⟩
  | succ c ih=>intro v hv;have hv1:=ht v (by omega);refine Az (show Ey g sh (.l1 v)=GU g sh v from rfl) ?_;unfold GU;rw[Ah (VB (by simp only[iN];omega)),Ab hV,Ab hs,Ab (by omega),Ab (by simp only[iN];omega),zW v (by omega),Vy];exact Bn (fun h=>e0 c (v+1) _ (by omega) (by simp only[iN] at h;omega) hv1) fun _=>ih (v+1) (by omega)
 unfold KJ;exact Ag hV (Ag hs (e1 g.length 0 (VL _)))
theorem gg_xP(g:List (List Int))(sh:List Bool):∃k:Int,VG g->sh.length=g.length->(0<=k/\k<=60)/\CT Wu 135 [] [.lst (gL g),.lst (boL sh)] [] (.tup [.int .i64 k,.any,.int .i64 0]):=by
 by_cases h:VG g/\sh.length=g.length
 .obtain⟨⟨o,ho⟩,hd⟩:=ggi_ex h.1 h.2;cases o with
  | none=>exact⟨0,fun _ _=>⟨by omega,CT.any1 (L:=[]) ((RD g sh ([],.tup [.int .i64 0,.nils,.int .i64 0]) hd).to rfl rfl)⟩⟩
  | some l=>exact⟨iN l.length,fun _ _=>⟨by have:=ho l rfl;simp only[iN];omega,CT.any1 (RD g sh _ hd)⟩⟩
 .exact⟨0,fun a b=>absurd ⟨a,b⟩ h⟩
@[irreducible] def ggK(g:List (List Int))(sh:List Bool):Int:=Classical.choose (gg_xP g sh)
theorem gg_c{g:List (List Int)}(hg:VG g){sh:List Bool}(hs:sh.length=g.length):CT Wu 135 [] [.lst (gL g),.lst (boL sh)] [] (.tup [.int .i64 (ggK g sh),.any,.int .i64 0]):=by unfold ggK;exact(V8 (gg_xP g sh) hg hs).2
inductive IZ where | l0 (v0 v1:Int)
def lflSt(n:Aa):IZ->St | .l0 v0 v1=>St.mk 54 [(2,AV.ptr 0 0 0),(4,AV.ptr 1 0 0),(25,Wt (Wn sA n.ss)),(26,iv (iN (Wn sA n.ss).length)),(27,iv v0)] [some (bK [AV.agg [iv 0,AV.nils,iv 0,iv 0]] 4),some (bK [AV.agg [iv (ggK n.nx (Wo (gL n.nx).length false)),AV.any,iv v1,iv 0]] 4)]
def LW(n:Aa):Option (IZ⊕Ret):=gu (Rows n.nx) <|gu (An n) <|gu (1 * iN (gL n.nx).length<=281474976710656) <|gu (iN (gL n.nx).length<=9223372036854775807) <|gu (VG n.nx) <|gu ((Wo (gL n.nx).length false).length=n.nx.length) <|some (.inl (.l0 ((0:Int)) ((0:Int))))
def GF(n:Aa)(v0 v1:Int):Option (IZ⊕Ret):=br (decide (v0<iN (Wn sA n.ss).length)) (gu (0<=v0) <|el (n.ss) (v0.toNat) fun(x29:Au)=>br (x29.dep) (some (.inl (.l0 (i64.wrap (v0+1)) (i64.wrap (v1+x29.k))))) (some (.inl (.l0 (i64.wrap (v0+1)) v1)))) (br (decide (0<ggK n.nx (Wo (gL n.nx).length false))) (some (.inr ([],AV.tup [AV.agg [iV (ggK n.nx (Wo (gL n.nx).length false)),AV.any,iV v1,iV (if i64.wrap (ggK n.nx (Wo (gL n.nx).length false)-1)<v1 then i64.wrap (ggK n.nx (Wo (gL n.nx).length false)-1) else v1)],iV 0]))) (some (.inr ([],AV.tup [AV.agg [iV (ggK n.nx (Wo (gL n.nx).length false)),AV.any,iV v1,iV v1],iV 0]))))
def J5(n:Aa):IZ->Option (IZ⊕Ret) | .l0 v0 v1=>GF n v0 v1
theorem lfl_ct(n:Aa)(r:Ret)(h:Ac (J5 n) (LW n) r):CT Wu 87 ([]) ([Ai n]) r.1 r.2:=CT.mach (fn:=Tryz.f87) (c:=zB Tryz.f87) (S:=(lflSt n)) (hd:=IZ.ctorIdx) Tryz.func87 (by kernel_rfl) (nL rfl) (fun s o ho=>match s,ho with | .l0 v0 v1,ho=>Scr.ok (X:=GF n v0 v1) ho mix (.ra bG <|.br (fun a0=>.gu fun a1=>.el fun x29 a2=>.rv 1 [57] [(29,sA x29)] [] (ax a0 (bH a1 (Ae (f:=sA) a2) aS) aw) <|.br (fun a3=>.pa [65] [0,1] [2,4,25,26,27] (bm a3 (ah (bD aD)) aw t8)) (fun a3=>.pa [64] [0,1] [2,4,25,26,27] (cj a3 t8))) (fun a0=>.rv 1 [56] [] [] (ax a0 (am aD) aE) <|.br (fun a1=>.ta [91] (be (ax a1 (cb (bD aD)) ca) t5)) (fun a1=>.ta [90] (bF a1 ca t5)))) (by kernel_rfl)) (fun o ho=>Scr.ok (X:=LW n) ho mix (.ra (bz t3) <|.gu fun a0=>.gu fun a1=>have c0:=Sz a0 a1;.rv 1 [] [] [(8,hK c0 [] [])] (aj (cQ t9 (c0) s2) bn) <|.gu fun a2=>.gu fun a3=>.gu fun a4=>.gu fun a5=>have c1:=gg_c a4 a5;.pb [] [] [(18,hK c1 [] [3])] [] [1,2] [2,4,25,26,27] (aF (cb (ab (an (show 0<=iN (gL n.nx).length from(Int.natCast_nonneg _)) (ab (show iN (gL n.nx).length<=iN (gL n.nx).length by omega) a2 a3)) (k3 (ab (show(gL n.nx).length=(Wo (gL n.nx).length (bV false)).length by simp) (show CT Wu 135 [] [Wt (gL n.nx),Wt (Wo (gL n.nx).length (bV false))] [] (AV.tup [iv (ggK n.nx (Wo (gL n.nx).length false)),AV.any,iv 0]) from CT.eqs (c1) (by first | (simp only[boL,VJ,Wj,List.map_take,List.map_drop,List.map_replicate,List.nil_append]<;>rfl) | (simp[gL,boL,lI,sA,bA]<;>rfl)) (by first | (simp only[boL,VJ,Wj,List.map_take,List.map_drop,List.map_replicate,List.nil_append]<;>rfl) | (simp[gL,boL,lI,sA,bA]<;>rfl))) (show ∀(blk:Blk),blk∈[]->AY blk from(by intro _ h;cases h)))) (cb (bD aD)))) (am t2) t8)) (by kernel_rfl)) h
def flR(t:Int×Int×Int):Ret:=([],.tup [.agg [.int .i64 t.1,.any,.int .i64 t.2.1,.int .i64 t.2.2],.int .i64 0])
theorem Ln(n:Aa):∃t:Int×Int×Int,RwV n->CT Wu 87 [] [Ai n] [] (.tup [.agg [.int .i64 t.1,.any,.int .i64 t.2.1,.int .i64 t.2.2],.int .i64 0]):=by
 by_cases h:RwV n
 .have hv:=h.1;have h1:=hv.nb24;have hns:=hv.ns;have hgl:=B4 n.nx;have hx:=hv.nx;have key:∃t:Int×Int×Int,Ac (J5 n) (LW n) (flR t):=by
   have e0:∀(c v:Nat) (s:Int),v+c=n.ss.length->∃t:Int×Int×Int,Ac (J5 n) (some (.inl (.l0 (v:Int) s))) (flR t):=by
    intro c;induction c with
    | zero=>intro v s hv;refine Az (show J5 n (.l0 v s)=GF n v s from rfl) ?_;unfold GF;rw[Ad (VA (by simp only[iN,Vy];omega))];exact Ak (fun _=>⟨(_,_,_),.ret _⟩) fun _=>⟨(_,_,_),.ret _⟩
    | succ c ih=>intro v s hv;refine Az (show J5 n (.l0 v s)=GF n v s from rfl) ?_;unfold GF;rw[Ah (VB (by simp only[iN,Vy];omega)),Ab (by omega),VE,zW v (by omega)];exact AG (by omega) fun x hx=>Ak (fun _=>ih (v+1) _ (by omega)) fun _=>ih (v+1) _ (by omega)
   unfold LW;exact Ag h.2 (Ag hv (Ag (by simp only[iN];omega) (Ag (by simp only[iN];omega) (Ag hv.vg (Ag (by rw[VQ,hgl]) (e0 n.ss.length 0 0 (VL _)))))))
  obtain⟨t,ht⟩:=key;exact⟨t,fun _=>lfl_ct n _ ht⟩
 .exact⟨(0,0,0),fun a=>absurd a h⟩
@[irreducible] def lfG(n:Aa):Int:=(Classical.choose (Ln n)).1
@[irreducible] def lfS(n:Aa):Int:=(Classical.choose (Ln n)).2.1
@[irreducible] def lfC(n:Aa):Int:=(Classical.choose (Ln n)).2.2
theorem lfl_c{n:Aa}(hrw:RwV n):CT Wu 87 [] [Ai n] [] (.tup [.agg [.int .i64 (lfG n),.any,.int .i64 (lfS n),.int .i64 (lfC n)],.int .i64 0]):=by unfold lfG lfS lfC;exact V8 (Ln n) hrw
inductive Im where | l0 (v0:List Int) (v1:Int)
def JQ(n:Aa)(cl:List Bool)(bw pe:List Int)(tk:List TsD)(us:List UsD)(c:CmD):Im->St | .l0 v0 v1=>St.mk 106 [(0,AV.ptr 0 0 0),(4,AV.ptr 1 0 0),(5,iv (Ar n c.a)),(6,AV.ptr 2 0 0),(8,AV.sl 3 0 v0.length),(30,AV.sl 4 0 us.length),(31,iv (iN us.length)),(32,iv v1)] [some (Blk.mk [AV.agg [Wt (Wn bA n.bs),Wt (gL n.nx),Wt (Wn sA n.ss),Wt (Wn iv n.rs),iv n.q,iv n.a,iv n.d,iv n.p,Wt (boL cl),Wt (Wn iv bw),Wt (Wn iv pe),AV.sl 5 0 tk.length,AV.sl 4 0 us.length]] 13 false true none),some (bK [AV.agg [iv 0,iv 0]] 2),some (bK [AV.agg [iv (lfG n),AV.any,iv (lfS n),iv (lfC n)]] 4),some (bK (Wn iv v0) 1),some (bK (Wn usA us) 13),some (bK (Wn tsA tk) 5)]
def N4(n:Aa)(cl:List Bool)(bw pe:List Int)(tk:List TsD)(us:List UsD)(c:CmD):Option (Im⊕Ret):=gu (n.ss.length<=1000) <|gu (RwV n) <|some (.inl (.l0 ([]) ((0:Int))))
def G9(n:Aa)(cl:List Bool)(bw pe:List Int)(tk:List TsD)(us:List UsD)(c:CmD)(v0:List Int)(v1:Int):Option (Im⊕Ret):=br (decide (v1<iN us.length)) (gu (0<=v1) <|gu (v1<iN us.length) <|el (us) (0+v1.toNat) fun(x35:UsD)=>br (A7 x35.s) (gu ((Wn iV v0).length+[iV x35.hm].length<=9223372036854775807) <|gu (((Wn iV v0).length+[iV x35.hm].length) * 8<=140737488355328) <|some (.inl (.l0 (v0++[x35.hm]) (i64.wrap (v1+1))))) (gu ((Wn iV v0).length+1<=9223372036854775807) <|gu (((Wn iV v0).length+1) * 8<=140737488355328) <|some (.inl (.l0 (v0++[-2]) (i64.wrap (v1+1)))))) (br (!Ce n (Ar n c.a) true) (some (.inr (bkH n cl bw pe tk us tk.length us.length,AV.agg [iV 3,iV 0]))) (gu (us.length<=1000) <|br (decide (lfC n<=cnP us)) (some (.inr (bkH n cl bw pe tk us tk.length us.length,AV.agg [iV 7,iV 0]))) (br (iN us.length==8) (some (.inr (bkH n cl bw pe tk us tk.length us.length,AV.agg [iV 7,iV 0]))) (gu (RwV n) <|gu (An n) <|gu (Ba n (Aj.mk cl bw pe)) <|br (freZ n (AC (Aj.mk cl bw pe)) v0 (Ar n c.a)==0) (some (.inr (bkH n cl bw pe tk us tk.length us.length,AV.agg [iV 8,iV 0]))) (gu ((Wn usA us).length+[AV.agg [iV 0,bV false,iV (Ar n c.a),iV 0,iV 0,uV 0,bV false,bV false,iV 0,iV 0,Wt [],iV 0,iV 0]].length<=9223372036854775807) <|gu (((Wn usA us).length+[AV.agg [iV 0,bV false,iV (Ar n c.a),iV 0,iV 0,uV 0,bV false,bV false,iV 0,iV 0,Wt [],iV 0,iV 0]].length) * 112<=140737488355328) <|some (.inr ([some (Blk.mk [AV.agg [Wt (Wn bA n.bs),Wt (gL n.nx),Wt (Wn sA n.ss),Wt (Wn iV n.rs),iV n.q,iV n.a,iV n.d,iV n.p,Wt (boL cl),Wt (Wn iV bw),Wt (Wn iV pe),AV.sl 1 0 tk.length,AV.sl 2 0 ((Wn usA us).length+[AV.agg [iV 0,bV false,iV (Ar n c.a),iV 0,iV 0,uV 0,bV false,bV false,iV 0,iV 0,Wt [],iV 0,iV 0]].length)]] 13 false true none),some (bK (Wn tsA tk) 5),some (bK (Wn usA us++[AV.agg [iV 0,bV false,iV (Ar n c.a),iV 0,iV 0,uV 0,bV false,bV false,iV 0,iV 0,Wt [],iV 0,iV 0]]) 13)],AV.agg [iV 1,iV (i64.wrap (iN ((Wn usA us).length+[AV.agg [iV 0,bV false,iV (Ar n c.a),iV 0,iV 0,uV 0,bV false,bV false,iV 0,iV 0,Wt [],iV 0,iV 0]].length)-1))])))))))
def Mk(n:Aa)(cl:List Bool)(bw pe:List Int)(tk:List TsD)(us:List UsD)(c:CmD):Im->Option (Im⊕Ret) | .l0 v0 v1=>G9 n cl bw pe tk us c v0 v1
theorem bad_ct(n:Aa)(cl:List Bool)(bw pe:List Int)(tk:List TsD)(us:List UsD)(c:CmD)(r:Ret)(h:Ac (Mk n cl bw pe tk us c) (N4 n cl bw pe tk us c) r):CTX Wu 30 (bkH n cl bw pe tk us tk.length us.length) ([.ptr 0 0 0,cmA c]) r.1 r.2:=CTX.mach (fn:=Tryz.f30) (c:=zB Tryz.f30) (S:=(JQ n cl bw pe tk us c)) (hd:=Im.ctorIdx) Tryz.func30 (by kernel_rfl) (nL rfl) (nL rfl) (fun s o ho=>match s,ho with | .l0 v0 v1,ho=>Scr.ok (X:=G9 n cl bw pe tk us c v0 v1) ho mix (.ra bG <|.br (fun a0=>.gu fun a1=>.gu fun a2=>.el fun x35 a3=>have c0:=Lf (x35.s) (x35.lv) (x35.hm);.rv 2 [67] [(35,usA x35)] [(37,hK c0 [] [])] (ab a0 (b7 (an a1 a2) (Ae (f:=usA) a3) aS) (bo (bo (bc aP (c0))))) <|.br (fun a4=>.rb [75] (af a4 aE) <|.gu fun a5=>.gu fun a6=>.lq [] [] [] [] [] [0,1,2,8,4,5] [0,4,5,6,8,30,31,32] (up [(8,AV.sl 3 0 ((Wn iv v0).length+[iv x35.hm].length))] [(3,Wn iv v0++[iv x35.hm])] (JQ n cl bw pe tk us c (.l0 (v0++[x35.hm]) (i64.wrap (v1+1))))) (cj (cH (show(Wn iv v0).length=v0.length by simp) (bv (show nat_lit 1=nat_lit 1 from rfl) (show 1<=[iv x35.hm].length by simp) a5 a6) s2) (k3 (bp aT t6))) (by simp[up,upF,upV,upH,upB,JQ,gL,boL,lI,sA,bA,tsA,usA])) (fun a4=>.gu fun a5=>.gu fun a6=>.lq [74] [] [] [] [] [0,1,2,8,4,5] [0,4,5,6,8,30,31,32] (up [(8,AV.sl 3 0 ((Wn iv v0).length+1))] [(3,Wn iv v0++[iv (-2)])] (JQ n cl bw pe tk us c (.l0 (v0++[-2]) (i64.wrap (v1+1))))) (bm a4 (cH (show(Wn iv v0).length=v0.length by simp) (bv (show nat_lit 1=nat_lit 1 from rfl) (show nat_lit 1<=nat_lit 1 from(by first | exact nL rfl | decide)) a5 a6) s2) aw (k3 (bp aT t6))) (by simp[up,upF,upV,upH,upB,JQ,gL,boL,lI,sA,bA,tsA,usA]))) (fun a0=>have c0:=EX n (Ar n c.a) (true);.rd [66] [] [(51,hK c0 [] [])] (af a0 (cb (aB t9 (aM (c0)) aw))) <|.br (fun a1=>.tc [91] [0,5,4] [] (bZ a1 aS aT t3)) (fun a1=>.gu fun a2=>.br (fun a3=>have c1:=M9 n (cl) (bw) (pe) (tk) (us) (tk.length) (us.length) (show us.length=us.length from rfl) a2;.tb [90,121] [] [(56,hK c1 [0,5,4] [])] [0,5,4] [] (aj (cf a1 (aG (bB aT (aM (c1))) (bg t3 (aG a3 (cA a3 (cc a3))))) aS) (bf aT t3))) (fun a3=>have c1:=M9 n (cl) (bw) (pe) (tk) (us) (tk.length) (us.length) (show us.length=us.length from rfl) a2;.rd [90,120] [] [(56,hK c1 [0,5,4] [])] (af a1 (aG (bB aT (aM (c1))) (aa (bD (aI a3 (aI a3 s2)))))) <|.br (fun a4=>.tc [120,109] [0,5,4] [] (bZ a4 aS aT t3)) (fun a4=>.gu fun a5=>.gu fun a6=>.gu fun a7=>have c2:=JV n (cl) (bw) (pe) (tk) (us) (tk.length) (us.length) a5 a6 a7;have c3:=hFree_ct a5 (AC (Aj.mk cl bw pe)) v0 (Ar n c.a);.rv 1 [120,108] [] [(76,hK c2 [0,5,4] []),(79,hK c3 [] [3])] (ax a4 (cb (aB aT (aM (c2)) (bg (aN (aj t9 (aU (show v0.length=(Wn iv v0).length by simp) (aU (c3) (show ∀(blk:Blk),blk∈[]->AY blk from(by intro _ h;cases h)))))) ba))) aw) <|.br (fun a8=>.tc [120,167] [0,5,4] [] (bZ a8 aS aT t3)) (fun a8=>.gu fun a9=>.gu fun a10=>have c4:=Es (i64.wrap (iN ((Wn usA us).length+[AV.agg [iv 0,bV false,iv (Ar n c.a),iv 0,iv 0,uV 0,bV false,bV false,iv 0,iv 0,Wt [],iv 0,iv 0]].length)-1));.tb [120,166] [(93,AV.tup [])] [(105,hK c4 [] [])] [0,5,7] [] (bm a8 (cb (ah (aB (show(Wn usA us).length=us.length by simp) (bv (show nat_lit 13=nat_lit 13 from rfl) (show 1<=[AV.agg [iv 0,bV false,iv (Ar n c.a),iv 0,iv 0,uV 0,bV false,bV false,iv 0,iv 0,Wt [],iv 0,iv 0]].length by simp) a9 a10) (am aD)))) (am (ah (af (aM (c4)) au))) (bf aT t3)))))))) (by kernel_rfl)) (fun o ho=>Scr.ok (X:=N4 n cl bw pe tk us c) ho mix (.ra bR <|.gu fun a0=>have c0:=Lm n (cl) (bw) (pe) (tk) (us) (tk.length) (us.length) (c.a) a0;.rc [(17,hK c0 [0,1,2] [])] (aL (aj (aN (aj aT (aM (c0)))) s2)) <|.gu fun a1=>have c1:=lfl_c a1;.pb [] [] [(23,hK c1 [] [])] [(8,1)] [0,4,5,6,2,1] [0,4,5,6,8,30,31,32] (ar (bP (bc t9 (c1)) (am (aU au s2))) (u2 (aR (ah t2))) (k3 (bp aT t6)))) (by kernel_rfl)) h
def MqA:MtQ:=fun _ x _ p=>(p.2.1≠1/\p.1=x)\/(p.2.1=1/\p.2.2=x.us.length/\∃h,p.1=⟨x.cl,x.bw,x.pe,x.tk,x.us++[⟨0,false,h⟩]⟩)
theorem bad_P:MtP 30 MqA:=fun n x c hV=>DG (bad_ct n x.cl x.bw x.pe x.tk x.us c) (by
 have hb:=hV.bd;have hu:=hV.ul;have z:∀{σ:Type} {step:σ->Option (σ⊕Ret)} {a b:Int},a≠1->∃p:{p:LgD×Int×Int // LgV n p.1/\MqA n x c p},Ac step (some (.inr (bkO n x,.agg [.int .i64 a,.int .i64 b]))) (bkT n p.1):=fun ha=>Bg hV (.inl ⟨ha,rfl⟩) rfl
 have e0:∀(d i:Nat) (W:List Int),i+d=x.us.length->W.length=i->∃p:{p:LgD×Int×Int // LgV n p.1/\MqA n x c p},Ac (Mk n x.cl x.bw x.pe x.tk x.us c) (some (.inl (.l0 W (i:Int)))) (bkT n p.1):=by
  intro d;induction d with
  | zero=>
   intro i W hi hW;refine Az (show Mk n x.cl x.bw x.pe x.tk x.us c (.l0 W i)=G9 n x.cl x.bw x.pe x.tk x.us c W i from rfl) ?_;unfold G9;rw[Ad (VA (by simp only[iN];omega))];refine Ak (fun _=>z (by decide)) fun hS=>Ag (by omega) (Ak (fun _=>z (by decide)) fun _=>Ak (fun _=>z (by decide)) fun h8=>Ag hV.rw (Ag hV.nv (Ag hV.sg (Ak (fun _=>z (by decide)) fun _=>?_))))
   have hlt:x.us.length≠8:=fun e=>by simp[iN,e] at h8
   have hd:0<=Ar n c.a/\dpB n (Ar n c.a)=true:=by
    unfold Ce at hS;simp only[Bool.not_eq_false',VD,decide_eq_true_eq] at hS;refine⟨hS.1,?_⟩;unfold dpB;rw[VB hS.1,Bool.true_and];cases hs:n.ss[(Ar n c.a).toNat]? with
    | none=>rw[hs] at hS;cases hS.2
    | some s=>rw[hs] at hS;simpa using hS.2
   refine Ag (by simp only[Vy,V9];omega) (Ag (by simp only[Vy,V9];omega) ?_);refine Bg (y:=⟨x.cl,x.bw,x.pe,x.tk,x.us++[⟨0,false,Ar n c.a⟩]⟩) (a:=1) (b:=(x.us.length:Int)) (hV.us' (by simp only[VP,V9];omega) (Jo hV.uv ?_)) (.inr ⟨rfl,rfl,_,rfl⟩) ?_
   .exact⟨by show(0:Int)<=0;omega,by show(0:Int)<=3;omega,by show -2<=Ar n c.a;omega,fun _=>hd.2⟩
   .rw[Dt (by simp only[iN,Vy,V9];omega) (by simp only[iN,Vy,V9];omega),show iN ((Wn usA x.us).length+[AV.agg [.int .i64 0,AV.bool false,.int .i64 (Ar n c.a),.int .i64 0,.int .i64 0,AV.int u64 0,AV.bool false,AV.bool false,.int .i64 0,.int .i64 0,Wt [],.int .i64 0,.int .i64 0]].length)-1=(x.us.length:Int) by simp only[iN,Vy,V9];omega];simp only[bkO,bkH,bkB,VJ,VP,Vy,Vr,Vs];rfl
  | succ d ih=>
   intro i W hi hW;refine Az (show Mk n x.cl x.bw x.pe x.tk x.us c (.l0 W i)=G9 n x.cl x.bw x.pe x.tk x.us c W i from rfl) ?_;unfold G9;rw[Ah (VB (by simp only[iN];omega)),zW i (by omega)];refine Ag (by omega) (Ag (by simp only[iN];omega) (AG (by omega) fun y hy=>Ak (fun _=>?_) fun _=>?_))
   .exact Ag (by simp only[Vy,V9];omega) (Ag (by simp only[Vy,V9];omega) (ih (i+1) _ (by omega) (by simp only[VP,V9];omega)))
   .exact Ag (by simp only[Vy];omega) (Ag (by simp only[Vy];omega) (ih (i+1) _ (by omega) (by simp only[VP,V9];omega)))
 unfold N4;exact Ag (by omega) (Ag hV.rw (e0 x.us.length 0 [] (VL _) rfl)))
@[irreducible] def BI:Aa->LgD->CmD->LgD×Int×Int:=Classical.choose bad_P.fn
theorem bad_s(n:Aa)(x:LgD)(c:CmD)(hV:LgV n x):(LgV n (BI n x c).1/\MqA n x c (BI n x c))/\CTX Wu 30 (bkO n x) [.ptr 0 0 0,cmA c] (bkF n (BI n x c).1) (.agg [.int .i64 (BI n x c).2.1,.int .i64 (BI n x c).2.2]):=by unfold BI;exact V8 bad_P.fn n x c hV
theorem bad_c(n:Aa)(cl:List Bool)(bw pe:List Int)(tk:List TsD)(us:List UsD)(c:CmD)(n1 n2:Nat)(e1:n1=tk.length)(e2:n2=us.length)(hV:LgV n ⟨cl,bw,pe,tk,us⟩):CTX Wu 30 (bkH n cl bw pe tk us n1 n2) [.ptr 0 0 0,cmA c] (bkF n (BI n ⟨cl,bw,pe,tk,us⟩ c).1) (.agg [.int .i64 (BI n ⟨cl,bw,pe,tk,us⟩ c).2.1,.int .i64 (BI n ⟨cl,bw,pe,tk,us⟩ c).2.2]):=by subst e1 e2;exact(bad_s n ⟨cl,bw,pe,tk,us⟩ c hV).2
def Nn(n:Aa)(cl:List Bool)(bw pe:List Int)(tk:List TsD)(us:List UsD)(u w:ByteArray)(q:Int):Option (Empty⊕Ret):=gu (LgV n (LgD.mk cl bw pe tk us)) <|some (.inr ([],AV.tup [AV.agg [Wt (boL (BI n (LgD.mk cl bw pe tk us) (CmD.mk 5 u w q)).fst.cl),Wt (Wn iV (BI n (LgD.mk cl bw pe tk us) (CmD.mk 5 u w q)).fst.bw),Wt (Wn iV (BI n (LgD.mk cl bw pe tk us) (CmD.mk 5 u w q)).fst.pe),Wt (Wn tsA (BI n (LgD.mk cl bw pe tk us) (CmD.mk 5 u w q)).fst.tk),Wt (Wn usA (BI n (LgD.mk cl bw pe tk us) (CmD.mk 5 u w q)).fst.us)],AV.agg [iV (BI n (LgD.mk cl bw pe tk us) (CmD.mk 5 u w q)).snd.fst,iV (BI n (LgD.mk cl bw pe tk us) (CmD.mk 5 u w q)).snd.snd],iV 0]))
theorem cm5_ct(n:Aa)(cl:List Bool)(bw pe:List Int)(tk:List TsD)(us:List UsD)(u w:ByteArray)(q:Int)(r:Ret)(h:Ac emT (Nn n cl bw pe tk us u w q) r):CT Wu 9 ([]) ([Ai n,lgA ⟨cl,bw,pe,tk,us⟩,cmA ⟨5,u,w,q⟩]) r.1 r.2:=CT.mach (fn:=Tryz.f9) (c:=zB Tryz.f9) (S:=emS) (hd:=emH) Tryz.func9 (by kernel_rfl) (nL rfl) (fun s o ho=>match s,ho with | x,_=>x.elim) (fun o ho=>Scr.ok (X:=Nn n cl bw pe tk us u w q) ho mix (.ra (aL t4) <|.gu fun a0=>have c0:=Dh n (cl) (bw) (pe) (tk) (us) a0;have c1:=bad_c n (cl) (bw) (pe) (tk) (us) (CmD.mk 5 (CmD.mk 5 u w q).a (CmD.mk 5 u w q).b q) (tk.length) (us.length) (show tk.length=tk.length from rfl) (show us.length=us.length from rfl) a0;.tb [] [] [(18,hK c0 [] []),(45,hKO c1 [5,6,7] [])] [] [] (af (b9 (bg (cN t9 t6 (c0)) ba) aw (ak (am (ah ba))) (ab (bb t3 ba) aw (bc (bb (aN (ab t5 aT (k2 (c1)))) aS) (cb (bq au au))))) (bq t6 t3))) (by kernel_rfl)) h
theorem cm5_c(n:Aa)(cl:List Bool)(bw pe:List Int)(tk:List TsD)(us:List UsD)(u w:ByteArray)(q:Int)(hV:LgV n ⟨cl,bw,pe,tk,us⟩):CT Wu 9 [] [Ai n,lgA ⟨cl,bw,pe,tk,us⟩,cmA ⟨5,u,w,q⟩] [] (.tup [lgA (BI n ⟨cl,bw,pe,tk,us⟩ ⟨5,u,w,q⟩).1,.agg [.int .i64 (BI n ⟨cl,bw,pe,tk,us⟩ ⟨5,u,w,q⟩).2.1,.int .i64 (BI n ⟨cl,bw,pe,tk,us⟩ ⟨5,u,w,q⟩).2.2],.int .i64 0]):=cm5_ct n cl bw pe tk us u w q ([],_) (.val (by unfold Nn;rw[Ab hV];rfl))
def CmO(n:Aa)(x:LgD)(c:CmD)(p:LgD×Int×Int):Prop:=(p.2.1≠1->p.1=x)/\CT Wu 9 [] [Ai n,lgA x,cmA c] [] (.tup [lgA p.1,.agg [.int .i64 p.2.1,.int .i64 p.2.2],.int .i64 0])
theorem cmd_ex(n:Aa)(x:LgD)(c:CmD)(hV:LgV n x)(hk:0<=c.k/\c.k<=10):∃p,CmO n x c p:=by
 obtain⟨k,u,w,q⟩:=c;obtain⟨cl,bw,pe,tk,us⟩:=x;simp only at hk;have hk:k=0\/k=1\/k=2\/k=3\/k=4\/k=5\/k=6\/k=7\/k=8\/k=9\/k=10:=by omega
 rcases hk with rfl | rfl | rfl | rfl | rfl | rfl | rfl | rfl | rfl | rfl | rfl
 .exact⟨(⟨cl,bw,pe,tk,us⟩,0,0),fun _=>rfl,cm0_ct n cl bw pe tk us u w q ([],_) (.val (by unfold Pt;rw[Ab hV];rfl))⟩
 .exact⟨BP n ⟨cl,bw,pe,tk,us⟩ ⟨1,u,w,q⟩,fun e=>(tas_s n _ ⟨1,u,w,q⟩ hV).1.2.elim (fun h=>h.2.1) fun h=>absurd h.1 e,cm1_c n cl bw pe tk us u w q hV⟩
 .exact⟨BQ n ⟨cl,bw,pe,tk,us⟩ ⟨2,u,w,q⟩,(bcn_s n _ ⟨2,u,w,q⟩ hV).1.2.1,cm2_c n cl bw pe tk us u w q hV⟩
 .exact⟨BO n ⟨cl,bw,pe,tk,us⟩ ⟨3,u,w,q⟩,(Oh n _ ⟨3,u,w,q⟩ hV).1.2.1,cm3_c n cl bw pe tk us u w q hV⟩
 .exact⟨Cg n ⟨cl,bw,pe,tk,us⟩ ⟨4,u,w,q⟩,(bo2_s n _ ⟨4,u,w,q⟩ hV).1.2,cm4_ct n cl bw pe tk us u w q ([],_) (.val (by unfold ON;rw[Ab hV];rfl))⟩
 .exact⟨BI n ⟨cl,bw,pe,tk,us⟩ ⟨5,u,w,q⟩,fun e=>(bad_s n _ ⟨5,u,w,q⟩ hV).1.2.elim (fun h=>h.2) fun h=>absurd h.1 e,cm5_c n cl bw pe tk us u w q hV⟩
 .exact⟨B7 n ⟨cl,bw,pe,tk,us⟩ ⟨6,u,w,q⟩,(bre_s n _ ⟨6,u,w,q⟩ hV).1.2,cm6_ct n cl bw pe tk us u w q ([],_) (.val (by unfold Pg;rw[Ab hV];rfl))⟩
 .exact⟨BK n ⟨cl,bw,pe,tk,us⟩ ⟨7,u,w,q⟩,fun _=>(bst_s n _ ⟨7,u,w,q⟩ hV).1.2.1,cm7_c n cl bw pe tk us u w q hV⟩
 .exact⟨Cd n ⟨cl,bw,pe,tk,us⟩ ⟨8,u,w,q⟩,(bsg_s n _ ⟨8,u,w,q⟩ hV).1.2,cm8_ct n cl bw pe tk us u w q ([],_) (.val (by unfold MY;rw[Ab hV];rfl))⟩
 .exact⟨BB n ⟨cl,bw,pe,tk,us⟩ ⟨9,u,w,q⟩,fun _=>by rw[show BB n ⟨cl,bw,pe,tk,us⟩ ⟨9,u,w,q⟩=_ from(Qe n _ ⟨9,u,w,q⟩ hV).1.2],cm9_c n cl bw pe tk us u w q hV⟩
 .exact⟨Cc n ⟨cl,bw,pe,tk,us⟩ ⟨10,u,w,q⟩,(bqu_s n _ ⟨10,u,w,q⟩ hV).1.2,cmX_ct n cl bw pe tk us u w q ([],_) (.val (by unfold Ox;rw[Ab hV];rfl))⟩
theorem Sk(n:Aa)(x:LgD)(c:CmD):∃p,LgV n x->0<=c.k/\c.k<=10->CmO n x c p:=by
 by_cases h:LgV n x/\0<=c.k/\c.k<=10
 .obtain⟨p,hp⟩:=cmd_ex n x c h.1 h.2;exact⟨p,fun _ _=>hp⟩
 .exact⟨(x,0,0),fun a b=>absurd ⟨a,b⟩ h⟩
@[irreducible] def cmF(n:Aa)(x:LgD)(c:CmD):LgD×Int×Int:=Classical.choose (Sk n x c)
theorem cmF_s{n:Aa}{x:LgD}{c:CmD}(hV:LgV n x)(hk:0<=c.k/\c.k<=10):CmO n x c (cmF n x c):=by unfold cmF;exact V8 (Sk n x c) hV hk
theorem cmG_c(n:Aa)(cl:List Bool)(bw pe:List Int)(tk:List TsD)(us:List UsD)(c:CmD)(hV:LgV n ⟨cl,bw,pe,tk,us⟩)(hk:0<=c.k/\c.k<=10):CT Wu 9 [] [Ai n,lgA ⟨cl,bw,pe,tk,us⟩,cmA c] [] (.tup [lgA (cmF n ⟨cl,bw,pe,tk,us⟩ c).1,.agg [.int .i64 (cmF n ⟨cl,bw,pe,tk,us⟩ c).2.1,.int .i64 (cmF n ⟨cl,bw,pe,tk,us⟩ c).2.2],.int .i64 0]):=(cmF_s hV hk).2
theorem sme_c(cl:List Bool)(bw pe:List Int)(tk:List TsD)(us:List UsD)(cl2:List Bool)(bw2 pe2:List Int)(tk2:List TsD)(us2:List UsD)(h1:cl.length<=1000)(h2:bw.length<=1000)(h3:pe.length<=1000)(h4:tk.length<=1000)(h5:us.length<=1000)(e:LgD.mk cl2 bw2 pe2 tk2 us2=LgD.mk cl bw pe tk us):CT Wu 12 [] [lgA ⟨cl,bw,pe,tk,us⟩,lgA ⟨cl2,bw2,pe2,tk2,us2⟩] [] (.bool true):=by
 cases e;refine sme_ct cl bw pe tk us ([],_) ?_;unfold MO;rw[Ab (by show cl.length<=_;omega),Ab (by show bw.length<=_;omega),Ab (by show pe.length<=_;omega),Ab (by omega),Ad (by simp)];refine Bb (fun i=>FX.l0 (i:Int)) us.length (fun i hi h=>.to (show Hx cl bw pe tk us i=_ from ?_) h) (.to (show Hx cl bw pe tk us us.length=_ from ?_) (.ret _))
 .obtain⟨x,hx⟩:∃x,us[i]?=some x:=⟨_,Vv hi⟩;unfold Hx;rw[AR hx,VE,Al hx,Ad (by simp),Al hx,Al hx,Ad (by cases x.lv<;>rfl),Al hx,Al hx,Ad (by simp),zW i (by omega)]
 .unfold Hx;rw[AN]
def OD(ls:List Int):Option (Empty⊕Ret):=gu (An (Aw ls 0 6)) <|gu (3<=(Aw ls 0 6).ss.length) <|gu (liK ls 0 15<=90000) <|gu (LgV (Aw ls 0 6) (liL ls 0 15)) <|gu (0<=(paC (BA ls (liK ls 0 15) (Aw ls 0 6))).k/\(paC (BA ls (liK ls 0 15) (Aw ls 0 6))).k<=10) <|br ((cmF (Aw ls 0 6) (liL ls 0 15) (paC (BA ls (liK ls 0 15) (Aw ls 0 6)))).snd.fst==1) (some (.inr ([],bV true))) (gu ((liL ls 0 15).cl.length<=1000) <|gu ((liL ls 0 15).bw.length<=1000) <|gu ((liL ls 0 15).pe.length<=1000) <|gu ((liL ls 0 15).tk.length<=1000) <|gu ((liL ls 0 15).us.length<=1000) <|gu ((cmF (Aw ls 0 6) (liL ls 0 15) (paC (BA ls (liK ls 0 15) (Aw ls 0 6)))).1=liL ls 0 15) <|some (.inr ([],bV true)))
theorem lqu_ct(ls:List Int)(r:Ret)(h:Ac emT (OD ls) r):CT Wu 3 ([]) ([lI ls]) r.1 r.2:=CT.mach (fn:=Tryz.f3) (c:=zB Tryz.f3) (S:=emS) (hd:=emH) Tryz.func3 (by kernel_rfl) (nL rfl) (fun s o ho=>match s,ho with | x,_=>x.elim) (fun o ho=>Scr.ok (X:=OD ls) ho mix (have c0:=kno_c;have c1:=li_c (ls) (0) (15) (show nat_lit 0<=(5000:Nat) from(by first | exact nL rfl | decide)) (show(0:Int)<=(15:Int)/\(15:Int)<=(100:Int) from ⟨(by first | exact nL rfl | decide),(by first | exact nL rfl | decide)⟩);.rv 3 [] [] [(9,hK c0 [] []),(16,hK c1 [0] [])] (u2 (cO (al (c0)) (bc (am s2) (aG (bu (c1)) (am (k2 (af au au))))))) <|.gu fun a0=>.gu fun a1=>.gu fun a2=>.gu fun a3=>.gu fun a4=>have c2:=ord_c (ls) (liK ls 0 15) (Aw ls 0 6) a0 a1 a2;have c3:=par_c (BA ls (liK ls 0 15) (Aw ls 0 6));have c4:=cmG_c (Aw ls 0 6) ((liL ls 0 15).cl) ((liL ls 0 15).bw) ((liL ls 0 15).pe) ((liL ls 0 15).tk) ((liL ls 0 15).us) (paC (BA ls (liK ls 0 15) (Aw ls 0 6))) a3 a4;.rc [(24,hK c2 [0] []),(25,hK c3 [] []),(26,hK c4 [] [])] (bC (aj (bB t9 (ay (c2))) (ab (aM (c3)) (bB t9 (ax t6 t5 (c4))) (ah (k2 (ab au au s2)))))) <|.br (fun a5=>.ta [73] (az (aL (aj t3 (cK (bf a5 (aC a5 (ab (ak (az a5)) t3 s2)))))))) (fun a5=>.gu fun a6=>.gu fun a7=>.gu fun a8=>.gu fun a9=>.gu fun a10=>.gu fun a11=>have c5:=sme_c ((liL ls 0 15).cl) ((liL ls 0 15).bw) ((liL ls 0 15).pe) ((liL ls 0 15).tk) ((liL ls 0 15).us) ((cmF (Aw ls 0 6) (liL ls 0 15) (paC (BA ls (liK ls 0 15) (Aw ls 0 6)))).1.cl) ((cmF (Aw ls 0 6) (liL ls 0 15) (paC (BA ls (liK ls 0 15) (Aw ls 0 6)))).1.bw) ((cmF (Aw ls 0 6) (liL ls 0 15) (paC (BA ls (liK ls 0 15) (Aw ls 0 6)))).1.pe) ((cmF (Aw ls 0 6) (liL ls 0 15) (paC (BA ls (liK ls 0 15) (Aw ls 0 6)))).1.tk) ((cmF (Aw ls 0 6) (liL ls 0 15) (paC (BA ls (liK ls 0 15) (Aw ls 0 6)))).1.us) a6 a7 a8 a9 a10 a11;.tb [72] [] [(39,hK c5 [] [])] [] [] (az (aL (cK (cK (ai a5 (ar a5 (cN t6 t6 (c5)) (ab (ak (az a5)) t3 s2))))))))) (by kernel_rfl)) h
theorem rdInts{n:Nat}{es:List AV}(h:∀x∈es,ShV Wu n 3 x):∃L:List Int,es=L.map (AV.int .i64):=by
 induction es with
 | nil=>exact⟨[],rfl⟩
 | cons x es ih=>
  obtain⟨L,rfl⟩:=ih fun y hy=>h y (VN _ hy)
  obtain⟨i,_,rfl⟩:=(h x (by simp)).intD Tryz.underlying3;exact⟨i::L,rfl⟩
theorem lqu_run(ls:List Int):CT Wu 3 [] [lI ls] [] (.bool true):=by
 have hN:=(Ma (L:=ls) (kk:=0) (most:=6) (by omega) (by omega)).1;have hL:=li_s (L:=ls) (kk:=0) (w:=15) (by omega) (by omega);have hV:=hL.2;have hK:=hL.1;have hb:=hV.bd;have hu:=hV.ul;have ht:=hV.tl;refine lqu_ct ls ([],_) (.val ?_);have hk:=pa_k (BA ls (liK ls 0 15) (Aw ls 0 6));have hs:=(cmF_s hV hk).1;unfold OD;rw[Ab hN.v,Ab hN.ln.1,Ab (by omega),Ab hV,Ab hk];by_cases h:(cmF (Aw ls 0 6) (liL ls 0 15) (paC (BA ls (liK ls 0 15) (Aw ls 0 6)))).2.1=1
 .rw[Ah (by simpa using h)]
 .rw[Ad (by simpa using h),Ab (by omega),Ab (by omega),Ab (by omega),Ab (by omega),Ab (by omega),Ab (hs h)]
theorem ledgerQuiet_row(avs:List AV)(h:Ew Wu 6 Tryz.f3.params.toList avs):CT Wu 3 [] avs [] (.bool true):=by rw[Tryz.params3] at h;obtain⟨a,_,rfl,ka,h⟩:=h.consD;obtain rfl:=h.nilD;obtain⟨_,_,he,rfl⟩:=ka.sliceD Tryz.underlying22;obtain⟨l,rfl⟩:=rdInts he;exact lqu_run l
end Go.Proofs.YthjgbnbibebigaaGreat

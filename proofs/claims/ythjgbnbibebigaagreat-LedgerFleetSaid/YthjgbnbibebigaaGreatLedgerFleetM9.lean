/- Parts of the proof:GcD,Lj4m,LjB,LmJm,LmK,LmLm,Lm7m,LmF,LmM. -/
import Derived.KernelRfl
import Derived.Test.YthjgbnbibebigaaGreatProg
import Derived.Test.YthjgbnbibebigaaGreatLedgerFleetM8
noncomputable section
set_option linter.unusedVariables false
set_option linter.unusedSimpArgs false
open Go Go.AX Go.Proofs
set_option maxRecDepth 100000
set_option linter.unusedVariables false
set_option linter.unusedSimpArgs false
open Go.IntKind (i64 u64)
open List renaming map->U4
open Go.AX.AV renaming lst->Va
open Go.Proofs.Tryz renaming prog->Vb
namespace Go.Proofs.YthjgbnbibebigaaGreat
def flR(t:Int×Int×Int):Ret:=([],.tup [.agg [.int .i64 t.1,.any,.int .i64 t.2.1,.int .i64 t.2.2],.int .i64 0])
theorem KK(n:Aa):∃t:Int×Int×Int,RwV n->CT Vb 87 [] [Ai n] [] (.tup [.agg [.int .i64 t.1,.any,.int .i64 t.2.1,.int .i64 t.2.2],.int .i64 0]):=by
 by_cases h:RwV n
 .have hv:=h.1;have h1:=hv.nb24;have hns:=hv.ns;have hgl:=BZ n.nx;have hx:=hv.nx;have key:∃t:Int×Int×Int,Ac (Jw n) (Lh n) (flR t):=by
   have e0:∀(c v:Nat) (s:Int),v+c=n.ss.length->∃t:Int×Int×Int,Ac (Jw n) (some (.inl (.l0 (v:Int) s))) (flR t):=by
    intro c;induction c with
    | zero=>intro v s hv;refine Ay (show Jw n (.l0 v s)=Gi n v s from rfl) ?_;unfold Gi;rw[Ad (Uk (by simp only[iN,Ui];omega))];exact Am (fun _=>⟨(_,_,_),.ret _⟩) fun _=>⟨(_,_,_),.ret _⟩
    | succ c ih=>intro v s hv;refine Ay (show Jw n (.l0 v s)=Gi n v s from rfl) ?_;unfold Gi;rw[Ag (Ul (by simp only[iN,Ui];omega)),Ab (by omega),Uo,zW v (by omega)];exact AZ (by omega) fun x hx=>Am (fun _=>ih (v+1) _ (by omega)) fun _=>ih (v+1) _ (by omega)
   unfold Lh;exact Ah h.2 (Ah hv (Ah (by simp only[iN];omega) (Ah (by simp only[iN];omega) (Ah hv.vg (Ah (by rw[Uz,hgl]) (e0 n.ss.length 0 0 (Uu _)))))))
  obtain⟨t,ht⟩:=key;exact⟨t,fun _=>lfl_ct n _ ht⟩
 .exact⟨(0,0,0),fun a=>absurd a h⟩
@[irreducible] def lfG(n:Aa):Int:=(Classical.choose (KK n)).1
@[irreducible] def lfS(n:Aa):Int:=(Classical.choose (KK n)).2.1
@[irreducible] def lfC(n:Aa):Int:=(Classical.choose (KK n)).2.2
theorem lfl_c{n:Aa}(hrw:RwV n):CT Vb 87 [] [Ai n] [] (.tup [.agg [.int .i64 (lfG n),.any,.int .i64 (lfS n),.int .i64 (lfC n)],.int .i64 0]):=by unfold lfG lfS lfC;exact UP (KK n) hrw
end Go.Proofs.YthjgbnbibebigaaGreat
set_option maxHeartbeats 4000000
namespace Go.Proofs.YthjgbnbibebigaaGreat
inductive HO where | l0 (v0:List Int) (v1:Int)
def Jg(n:Aa)(cl:List Bool)(bw pe:List Int)(tk:List TsD)(us:List UsD)(c:CmD):HO->St | .l0 v0 v1=>St.mk 106 [(0,AV.ptr 0 0 0),(4,AV.ptr 1 0 0),(5,iv (Aw n c.a)),(6,AV.ptr 2 0 0),(8,AV.sl 3 0 v0.length),(30,AV.sl 4 0 us.length),(31,iv (iN us.length)),(32,iv v1)] [some (Blk.mk [AV.agg [Va (U4 bA n.bs),Va (gL n.nx),Va (U4 sA n.ss),Va (U4 iv n.rs),iv n.q,iv n.a,iv n.d,iv n.p,Va (boL cl),Va (U4 iv bw),Va (U4 iv pe),AV.sl 5 0 tk.length,AV.sl 4 0 us.length]] 13 false true none),some (bK [AV.agg [iv 0,iv 0]] 2),some (bK [AV.agg [iv (lfG n),AV.any,iv (lfS n),iv (lfC n)]] 4),some (bK (U4 iv v0) 1),some (bK (U4 usA us) 13),some (bK (U4 tsA tk) 5)]
def Ni(n:Aa)(cl:List Bool)(bw pe:List Int)(tk:List TsD)(us:List UsD)(c:CmD):Option (HO⊕Ret):=gu (n.ss.length<=1000) <|gu (RwV n) <|some (.inl (.l0 ([]) ((0:Int))))
def GM(n:Aa)(cl:List Bool)(bw pe:List Int)(tk:List TsD)(us:List UsD)(c:CmD)(v0:List Int)(v1:Int):Option (HO⊕Ret):=br (decide (v1<iN us.length)) (gu (0<=v1) <|gu (v1<iN us.length) <|el (us) (0+v1.toNat) fun(x35:UsD)=>br (Bh x35.s) (gu ((U4 iV v0).length+[iV x35.hm].length<=9223372036854775807) <|gu (((U4 iV v0).length+[iV x35.hm].length) * 8<=140737488355328) <|some (.inl (.l0 (v0++[x35.hm]) (i64.wrap (v1+1))))) (gu ((U4 iV v0).length+1<=9223372036854775807) <|gu (((U4 iV v0).length+1) * 8<=140737488355328) <|some (.inl (.l0 (v0++[-2]) (i64.wrap (v1+1)))))) (br (!C7 n (Aw n c.a) true) (some (.inr (bkH n cl bw pe tk us tk.length us.length,AV.agg [iV 3,iV 0]))) (gu (us.length<=1000) <|br (decide (lfC n<=cnP us)) (some (.inr (bkH n cl bw pe tk us tk.length us.length,AV.agg [iV 7,iV 0]))) (br (iN us.length==8) (some (.inr (bkH n cl bw pe tk us tk.length us.length,AV.agg [iV 7,iV 0]))) (gu (RwV n) <|gu (Aq n) <|gu (BB n (Aj.mk cl bw pe)) <|br (freZ n (AD (Aj.mk cl bw pe)) v0 (Aw n c.a)==0) (some (.inr (bkH n cl bw pe tk us tk.length us.length,AV.agg [iV 8,iV 0]))) (gu ((U4 usA us).length+[AV.agg [iV 0,bV false,iV (Aw n c.a),iV 0,iV 0,uV 0,bV false,bV false,iV 0,iV 0,Va [],iV 0,iV 0]].length<=9223372036854775807) <|gu (((U4 usA us).length+[AV.agg [iV 0,bV false,iV (Aw n c.a),iV 0,iV 0,uV 0,bV false,bV false,iV 0,iV 0,Va [],iV 0,iV 0]].length) * 112<=140737488355328) <|some (.inr ([some (Blk.mk [AV.agg [Va (U4 bA n.bs),Va (gL n.nx),Va (U4 sA n.ss),Va (U4 iV n.rs),iV n.q,iV n.a,iV n.d,iV n.p,Va (boL cl),Va (U4 iV bw),Va (U4 iV pe),AV.sl 1 0 tk.length,AV.sl 2 0 ((U4 usA us).length+[AV.agg [iV 0,bV false,iV (Aw n c.a),iV 0,iV 0,uV 0,bV false,bV false,iV 0,iV 0,Va [],iV 0,iV 0]].length)]] 13 false true none),some (bK (U4 tsA tk) 5),some (bK (U4 usA us++[AV.agg [iV 0,bV false,iV (Aw n c.a),iV 0,iV 0,uV 0,bV false,bV false,iV 0,iV 0,Va [],iV 0,iV 0]]) 13)],AV.agg [iV 1,iV (i64.wrap (iN ((U4 usA us).length+[AV.agg [iV 0,bV false,iV (Aw n c.a),iV 0,iV 0,uV 0,bV false,bV false,iV 0,iV 0,Va [],iV 0,iV 0]].length)-1))])))))))
def LG(n:Aa)(cl:List Bool)(bw pe:List Int)(tk:List TsD)(us:List UsD)(c:CmD):HO->Option (HO⊕Ret) | .l0 v0 v1=>GM n cl bw pe tk us c v0 v1
theorem bad_ct(n:Aa)(cl:List Bool)(bw pe:List Int)(tk:List TsD)(us:List UsD)(c:CmD)(r:Ret)(h:Ac (LG n cl bw pe tk us c) (Ni n cl bw pe tk us c) r):CTX Vb 30 (bkH n cl bw pe tk us tk.length us.length) ([.ptr 0 0 0,cmA c]) r.1 r.2:=
 CTX.mach (fn:=Tryz.f30) (c:=zB Tryz.f30) (S:=(Jg n cl bw pe tk us c)) (hd:=HO.ctorIdx) Tryz.func30 (by kernel_rfl) (nL rfl) (nL rfl)
  (fun s o ho=>match s,ho with
 | .l0 v0 v1,ho=>Scr.ok (X:=GM n cl bw pe tk us c v0 v1) ho mix (
 .rn 0 [] [] [] [] (al (al t3)) <|
 .br (fun a0=>
 .gu fun a1=>
 .gu fun a2=>
 .el fun x35 a3=>
 have c0:=inf_c (x35.s) (x35.lv) (x35.hm);
 .rn 2 [67] [(35,usA x35)] [(37,hK c0 [] [])] [] (aj a0 (aj (aj (k2 (aj a1 a2)) (aj (ak (Af (f:=usA) a3)) (ak (al (k2 n11))))) (u2 (al (u2 (al (ak (aj (k5 t9) (al (c0)))))))))) <|
 .br (fun a4=>
  .rn 0 [75] [] [] [] (aj a4 (al (u2 (u2 s2)))) <|
  .gu fun a5=>
  .gu fun a6=>
  .lq [] [] [] [] [] [0,1,2,8,4,5] [0,4,5,6,8,30,31,32] (up [(8,AV.sl 3 0 ((U4 iv v0).length+[iv x35.hm].length))] [(3,U4 iv v0++[iv x35.hm])] (Jg n cl bw pe tk us c (.l0 (v0++[x35.hm]) (i64.wrap (v1+1))))) (aj (aj (u2 (u2 (u2 (aj (k2 (aj (show(U4 iv v0).length=v0.length by simp) (aj (aj (show nat_lit 1=nat_lit 1 from rfl) (show 1<=[iv x35.hm].length by simp)) (aj a5 a6)))) s2)))) (al (u2 s2))) (k3 (k5 (aj (al (k5 t9)) t6)))) (by simp[up,upF,upV,upH,upB,Jg,gL,boL,lI,sA,bA,tsA,usA]))
 (fun a4=>
  .gu fun a5=>
  .gu fun a6=>
  .lq [74] [] [] [] [] [0,1,2,8,4,5] [0,4,5,6,8,30,31,32] (up [(8,AV.sl 3 0 ((U4 iv v0).length+1))] [(3,U4 iv v0++[iv (-2)])] (Jg n cl bw pe tk us c (.l0 (v0++[-2]) (i64.wrap (v1+1))))) (aj (aj a4 (aj (u2 (u2 (u2 (aj (k2 (aj (show(U4 iv v0).length=v0.length by simp) (aj (aj (show nat_lit 1=nat_lit 1 from rfl) (show nat_lit 1<=nat_lit 1 from(by first | exact nL rfl | decide))) (aj a5 a6)))) s2)))) (al (u2 s2)))) (k3 (k5 (aj (al (k5 t9)) t6)))) (by simp[up,upF,upV,upH,upB,Jg,gL,boL,lI,sA,bA,tsA,usA])))
 (fun a0=>
 have c0:=Ju n (Aw n c.a) (true);
 .rn 0 [66] [] [(51,hK c0 [] [])] [] (aj a0 (al (u2 (u2 (u2 (u2 (u2 (aj (k2 (aj t9 (k2 (al (c0))))) (u2 s2))))))))) <|
 .br (fun a1=>
  .rt [91] [] [] [] [0,5,4] [] (aj (aj a1 (al (ak (al (k2 n11))))) (aj t3 (aj (al (k5 t9)) t3))))
 (fun a1=>
  .gu fun a2=>
  .br (fun a3=>
  have c1:=Ms n (cl) (bw) (pe) (tk) (us) (tk.length) (us.length) (show us.length=us.length from rfl) a2;
  .rt [90,121] [] [(56,hK c1 [0,5,4] [])] [] [0,5,4] [] (aj (aj a1 (aj (u2 (aj (k3 (aj (al (k5 t9)) (k2 (al (c1))))) (u2 (u2 (aj t3 (u2 (aj a3 (aj a3 (aj a3 (aj a3 (aj a3 (aj a3 (aj a3 (ag a3 s2)))))))))))))) (ak (al (ak (al (k2 n11))))))) (aj t3 (aj (al (k5 t9)) t3))))
  (fun a3=>
  have c1:=Ms n (cl) (bw) (pe) (tk) (us) (tk.length) (us.length) (show us.length=us.length from rfl) a2;
  .rn 0 [90,120] [] [(56,hK c1 [0,5,4] [])] [] (aj a1 (al (u2 (aj (k3 (aj (al (k5 t9)) (k2 (al (c1))))) (u2 (u2 (aj t3 (u2 (ag a3 (ag a3 (ag a3 (ag a3 (ag a3 (ag a3 (ag a3 (ag a3 s2)))))))))))))))) <|
  .br (fun a4=>
   .rt [120,109] [] [] [] [0,5,4] [] (aj (aj a4 (al (ak (al (k2 n11))))) (aj t3 (aj (al (k5 t9)) t3))))
  (fun a4=>
   .gu fun a5=>
   .gu fun a6=>
   .gu fun a7=>
   have c2:=bsh_v n (cl) (bw) (pe) (tk) (us) (tk.length) (us.length) a5 a6 a7;
   have c3:=hFree_ct a5 (AD (Aj.mk cl bw pe)) v0 (Aw n c.a);
   .rn 1 [120,108] [] [(76,hK c2 [0,5,4] []),(79,hK c3 [] [3])] [] (aj a4 (aj (u2 (u2 (u2 (u2 (u2 (aj (k2 (aj (al (k5 t9)) (k2 (al (c2))))) (u2 (u2 (aj (ak (k3 (aj t9 (ak (aj (show v0.length=(U4 iv v0).length by simp) (ak (aj (c3) (show ∀(blk:Blk),blk∈[]->A5 blk from(by intro _ h;cases h))))))))) (u2 (u2 (u2 (u2 s2))))))))))))) (al (u2 s2)))) <|
   .br (fun a8=>
   .rt [120,167] [] [] [] [0,5,4] [] (aj (aj a8 (al (ak (al (k2 n11))))) (aj t3 (aj (al (k5 t9)) t3))))
   (fun a8=>
   .gu fun a9=>
   .gu fun a10=>
   have c4:=okA_c (i64.wrap (iN ((U4 usA us).length+[AV.agg [iv 0,bV false,iv (Aw n c.a),iv 0,iv 0,uV 0,bV false,bV false,iv 0,iv 0,Va [],iv 0,iv 0]].length)-1));
   .rt [120,166] [(93,AV.tup [])] [(105,hK c4 [] [])] [] [0,5,7] [] (aj (aj a8 (aj (u2 (u2 (u2 (u2 (u2 (u2 (u2 (u2 (u2 (aj (k2 (aj (show(U4 usA us).length=us.length by simp) (aj (aj (show nat_lit 13=nat_lit 13 from rfl) (show 1<=[AV.agg [iv 0,bV false,iv (Aw n c.a),iv 0,iv 0,uV 0,bV false,bV false,iv 0,iv 0,Va [],iv 0,iv 0]].length by simp)) (aj a9 a10)))) (u2 (u2 (u2 (al t3)))))))))))))) (al (u2 (u2 (u2 (u2 (u2 (u2 (u2 (aj (k2 (al (c4))) (al (k2 n11))))))))))))) (aj t3 (aj (al (k5 t9)) t3))))))))) (by kernel_rfl)
  )
  (fun o ho=>Scr.ok (X:=Ni n cl bw pe tk us c) ho mix (
 .rn 0 [] [] [] [] (al (u2 t2)) <|
 .gu fun a0=>
 have c0:=bsp_c n (cl) (bw) (pe) (tk) (us) (tk.length) (us.length) (c.a) a0;
 .rn 0 [] [] [(17,hK c0 [0,1,2] [])] [] (al (u2 (u2 (u2 (aj (ak (k3 (aj (al (k5 t9)) (k2 (al (c0)))))) s2))))) <|
 .gu fun a1=>
 have c1:=lfl_c a1;
 .lp [] [] [(23,hK c1 [] [])] [] [(8,1)] [0,4,5,6,2,1] [0,4,5,6,8,30,31,32] (aj (aj (u2 (u2 (u2 (u2 (aj (ak (aj t9 (al (c1)))) (u2 (u2 (u2 (ak (aj (k2 n11) s2)))))))))) (u2 (al (u2 (u2 (u2 (u2 (u2 (u2 t2))))))))) (k3 (k5 (aj (al (k5 t9)) t6))))) (by kernel_rfl)) h
def MqA:MtQ:=fun _ x _ p=>(p.2.1≠1/\p.1=x)\/(p.2.1=1/\p.2.2=x.us.length/\∃h,p.1=⟨x.cl,x.bw,x.pe,x.tk,x.us++[⟨0,false,h⟩]⟩)
theorem bad_P:MtP 30 MqA:=fun n x c hV=>Pv (bad_ct n x.cl x.bw x.pe x.tk x.us c) (by
 have hb:=hV.bd;have hu:=hV.ul;have z:∀{σ:Type} {step:σ->Option (σ⊕Ret)} {a b:Int},a≠1->∃p:{p:LgD×Int×Int // LgV n p.1/\MqA n x c p},Ac step (some (.inr (bkO n x,.agg [.int .i64 a,.int .i64 b]))) (bkT n p.1):=fun ha=>E9 hV (.inl ⟨ha,rfl⟩) rfl
 have e0:∀(d i:Nat) (W:List Int),i+d=x.us.length->W.length=i->∃p:{p:LgD×Int×Int // LgV n p.1/\MqA n x c p},Ac (LG n x.cl x.bw x.pe x.tk x.us c) (some (.inl (.l0 W (i:Int)))) (bkT n p.1):=by
  intro d;induction d with
  | zero=>
   intro i W hi hW;refine Ay (show LG n x.cl x.bw x.pe x.tk x.us c (.l0 W i)=GM n x.cl x.bw x.pe x.tk x.us c W i from rfl) ?_;unfold GM;rw[Ad (Uk (by simp only[iN];omega))];refine Am (fun _=>z (by decide)) fun hS=>Ah (by omega) (Am (fun _=>z (by decide)) fun _=>Am (fun _=>z (by decide)) fun h8=>Ah hV.rw (Ah hV.nv (Ah hV.sg (Am (fun _=>z (by decide)) fun _=>?_))))
   have hlt:x.us.length≠8:=fun e=>by simp[iN,e] at h8
   have hd:0<=Aw n c.a/\dpB n (Aw n c.a)=true:=by
    unfold C7 at hS;simp only[Bool.not_eq_false',Un,decide_eq_true_eq] at hS;refine⟨hS.1,?_⟩;unfold dpB;rw[Ul hS.1,Bool.true_and];cases hs:n.ss[(Aw n c.a).toNat]? with
    | none=>rw[hs] at hS;cases hS.2
    | some s=>rw[hs] at hS;simpa using hS.2
   refine Ah (by simp only[Ui,UQ];omega) (Ah (by simp only[Ui,UQ];omega) ?_);refine E9 (y:=⟨x.cl,x.bw,x.pe,x.tk,x.us++[⟨0,false,Aw n c.a⟩]⟩) (a:=1) (b:=(x.us.length:Int)) (hV.us' (by simp only[Uy,UQ];omega) (Ma hV.uv ?_)) (.inr ⟨rfl,rfl,_,rfl⟩) ?_
   .exact⟨by show(0:Int)<=0;omega,by show(0:Int)<=3;omega,by show -2<=Aw n c.a;omega,fun _=>hd.2⟩
   .rw[CB (by simp only[iN,Ui,UQ];omega) (by simp only[iN,Ui,UQ];omega),show iN ((U4 usA x.us).length+[AV.agg [.int .i64 0,AV.bool false,.int .i64 (Aw n c.a),.int .i64 0,.int .i64 0,AV.int u64 0,AV.bool false,AV.bool false,.int .i64 0,.int .i64 0,Va [],.int .i64 0,.int .i64 0]].length)-1=(x.us.length:Int) by simp only[iN,Ui,UQ];omega];simp only[bkO,bkH,bkB,Us,Uy,Ui,Ub,Uc];rfl
  | succ d ih=>
   intro i W hi hW;refine Ay (show LG n x.cl x.bw x.pe x.tk x.us c (.l0 W i)=GM n x.cl x.bw x.pe x.tk x.us c W i from rfl) ?_;unfold GM;rw[Ag (Ul (by simp only[iN];omega)),zW i (by omega)];refine Ah (by omega) (Ah (by simp only[iN];omega) (AZ (by omega) fun y hy=>Am (fun _=>?_) fun _=>?_))
   .exact Ah (by simp only[Ui,UQ];omega) (Ah (by simp only[Ui,UQ];omega) (ih (i+1) _ (by omega) (by simp only[Uy,UQ];omega)))
   .exact Ah (by simp only[Ui];omega) (Ah (by simp only[Ui];omega) (ih (i+1) _ (by omega) (by simp only[Uy,UQ];omega)))
 unfold Ni;exact Ah (by omega) (Ah hV.rw (e0 x.us.length 0 [] (Uu _) rfl)))
@[irreducible] def AW:Aa->LgD->CmD->LgD×Int×Int:=Classical.choose bad_P.fn
theorem bad_s(n:Aa)(x:LgD)(c:CmD)(hV:LgV n x):(LgV n (AW n x c).1/\MqA n x c (AW n x c))/\CTX Vb 30 (bkO n x) [.ptr 0 0 0,cmA c] (bkF n (AW n x c).1) (.agg [.int .i64 (AW n x c).2.1,.int .i64 (AW n x c).2.2]):=by unfold AW;exact UP bad_P.fn n x c hV
theorem bad_c(n:Aa)(cl:List Bool)(bw pe:List Int)(tk:List TsD)(us:List UsD)(c:CmD)(n1 n2:Nat)(e1:n1=tk.length)(e2:n2=us.length)(hV:LgV n ⟨cl,bw,pe,tk,us⟩):CTX Vb 30 (bkH n cl bw pe tk us n1 n2) [.ptr 0 0 0,cmA c] (bkF n (AW n ⟨cl,bw,pe,tk,us⟩ c).1) (.agg [.int .i64 (AW n ⟨cl,bw,pe,tk,us⟩ c).2.1,.int .i64 (AW n ⟨cl,bw,pe,tk,us⟩ c).2.2]):=by subst e1 e2;exact(bad_s n ⟨cl,bw,pe,tk,us⟩ c hV).2
def MC(n:Aa)(cl:List Bool)(bw pe:List Int)(tk:List TsD)(us:List UsD)(u w:ByteArray)(q:Int):Option (Empty⊕Ret):=gu (LgV n (LgD.mk cl bw pe tk us)) <|some (.inr ([],AV.tup [AV.agg [Va (boL (AW n (LgD.mk cl bw pe tk us) (CmD.mk 5 u w q)).fst.cl),Va (U4 iV (AW n (LgD.mk cl bw pe tk us) (CmD.mk 5 u w q)).fst.bw),Va (U4 iV (AW n (LgD.mk cl bw pe tk us) (CmD.mk 5 u w q)).fst.pe),Va (U4 tsA (AW n (LgD.mk cl bw pe tk us) (CmD.mk 5 u w q)).fst.tk),Va (U4 usA (AW n (LgD.mk cl bw pe tk us) (CmD.mk 5 u w q)).fst.us)],AV.agg [iV (AW n (LgD.mk cl bw pe tk us) (CmD.mk 5 u w q)).snd.fst,iV (AW n (LgD.mk cl bw pe tk us) (CmD.mk 5 u w q)).snd.snd],iV 0]))
theorem cm5_ct(n:Aa)(cl:List Bool)(bw pe:List Int)(tk:List TsD)(us:List UsD)(u w:ByteArray)(q:Int)(r:Ret)(h:Ac emT (MC n cl bw pe tk us u w q) r):CT Vb 9 ([]) ([Ai n,lgA ⟨cl,bw,pe,tk,us⟩,cmA ⟨5,u,w,q⟩]) r.1 r.2:=
 CT.mach (fn:=Tryz.f9) (c:=zB Tryz.f9) (S:=emS) (hd:=emH) Tryz.func9 (by kernel_rfl) (nL rfl)
  (fun s o ho=>match s,ho with
   | x,_=>x.elim)
  (fun o ho=>Scr.ok (X:=MC n cl bw pe tk us u w q) ho mix (
 .rn 0 [] [] [] [] (al (u2 (u2 (u2 t4)))) <|
 .gu fun a0=>
 have c0:=Oq n (cl) (bw) (pe) (tk) (us) a0;
 have c1:=bad_c n (cl) (bw) (pe) (tk) (us) (CmD.mk 5 (CmD.mk 5 u w q).a (CmD.mk 5 u w q).b q) (tk.length) (us.length) (show tk.length=tk.length from rfl) (show us.length=us.length from rfl) a0;
 .rt [] [] [(18,hK c0 [] []),(45,hKO c1 [5,6,7] [])] [] [] [] (aj (aj (u2 (u2 (aj (k2 (aj t9 (aj t6 (al (c0))))) (u2 (u2 (u2 (u2 s2))))))) (aj (u2 s2) (ak (aj (ak (u2 (u2 (u2 (u2 (u2 (u2 (u2 (u2 (u2 (u2 (u2 s2)))))))))))) (aj (u2 (u2 (u2 (aj t3 (u2 (u2 (u2 (u2 s2)))))))) (aj (u2 s2) (ak (aj (u2 (u2 (u2 (aj (ak (k3 (aj t5 (aj (al (k5 t9)) (k2 (c1)))))) (ak (al (k2 n11))))))) (al (u2 (u2 (u2 (u2 (u2 (aj (k2 n11) (aj (k2 n11) t2)))))))))))))))) (al (aj t6 (aj t3 t2))))) (by kernel_rfl)) h
theorem cm5_c(n:Aa)(cl:List Bool)(bw pe:List Int)(tk:List TsD)(us:List UsD)(u w:ByteArray)(q:Int)(hV:LgV n ⟨cl,bw,pe,tk,us⟩):CT Vb 9 [] [Ai n,lgA ⟨cl,bw,pe,tk,us⟩,cmA ⟨5,u,w,q⟩] [] (.tup [lgA (AW n ⟨cl,bw,pe,tk,us⟩ ⟨5,u,w,q⟩).1,.agg [.int .i64 (AW n ⟨cl,bw,pe,tk,us⟩ ⟨5,u,w,q⟩).2.1,.int .i64 (AW n ⟨cl,bw,pe,tk,us⟩ ⟨5,u,w,q⟩).2.2],.int .i64 0]):=cm5_ct n cl bw pe tk us u w q ([],_) (.val (by unfold MC;rw[Ab hV];rfl))
def Nr(ls:List Int):Option (Empty⊕Ret):=gu (LgV (Ar ls 0 6) (liL ls 0 6)) <|gu (liK ls 0 6<9223372036854775807) <|gu (0<=Ae ls (liK ls 0 6) (iN (U4 sA (Ar ls 0 6).ss).length)) <|el ((Ar ls 0 6).ss) ((Ae ls (liK ls 0 6) (iN (U4 sA (Ar ls 0 6).ss).length)).toNat) fun(x43:Av)=>gu (LgV (Ar ls 0 6) (AW (Ar ls 0 6) (liL ls 0 6) (CmD.mk 5 x43.nm (ByteArray.mk #[]) 0)).1) <|br ((Bo (Ar ls 0 6) (liL ls 0 6) (CmD.mk 9 (ByteArray.mk #[]) (ByteArray.mk #[]) 0)).snd.fst != 12) (some (.inr ([],bV false))) (br ((Bo (Ar ls 0 6) (AW (Ar ls 0 6) (liL ls 0 6) (CmD.mk 5 x43.nm (ByteArray.mk #[]) 0)).1 (CmD.mk 9 (ByteArray.mk #[]) (ByteArray.mk #[]) 0)).snd.fst != 12) (some (.inr ([],bV false))) (br ((AW (Ar ls 0 6) (liL ls 0 6) (CmD.mk 5 x43.nm (ByteArray.mk #[]) 0)).snd.fst != 1) (some (.inr ([],bV ((Bo (Ar ls 0 6) (AW (Ar ls 0 6) (liL ls 0 6) (CmD.mk 5 x43.nm (ByteArray.mk #[]) 0)).1 (CmD.mk 9 (ByteArray.mk #[]) (ByteArray.mk #[]) 0)).snd.snd==(Bo (Ar ls 0 6) (liL ls 0 6) (CmD.mk 9 (ByteArray.mk #[]) (ByteArray.mk #[]) 0)).snd.snd)))) (br ((Bo (Ar ls 0 6) (AW (Ar ls 0 6) (liL ls 0 6) (CmD.mk 5 x43.nm (ByteArray.mk #[]) 0)).1 (CmD.mk 9 (ByteArray.mk #[]) (ByteArray.mk #[]) 0)).snd.snd==i64.wrap ((Bo (Ar ls 0 6) (liL ls 0 6) (CmD.mk 9 (ByteArray.mk #[]) (ByteArray.mk #[]) 0)).snd.snd+1)) (br ((AW (Ar ls 0 6) (liL ls 0 6) (CmD.mk 5 x43.nm (ByteArray.mk #[]) 0)).snd.snd==iN (U4 usA (liL ls 0 6).us).length) (br (iN (U4 usA (AW (Ar ls 0 6) (liL ls 0 6) (CmD.mk 5 x43.nm (ByteArray.mk #[]) 0)).fst.us).length==i64.wrap ((AW (Ar ls 0 6) (liL ls 0 6) (CmD.mk 5 x43.nm (ByteArray.mk #[]) 0)).snd.snd+1)) (gu (0<=(AW (Ar ls 0 6) (liL ls 0 6) (CmD.mk 5 x43.nm (ByteArray.mk #[]) 0)).snd.snd) <|el ((AW (Ar ls 0 6) (liL ls 0 6) (CmD.mk 5 x43.nm (ByteArray.mk #[]) 0)).fst.us) ((AW (Ar ls 0 6) (liL ls 0 6) (CmD.mk 5 x43.nm (ByteArray.mk #[]) 0)).snd.snd.toNat) fun(x115:UsD)=>some (.inr ([],bV (x115.s==0)))) (some (.inr ([],bV false)))) (some (.inr ([],bV false)))) (some (.inr ([],bV false))))))
theorem lfe_ct(ls:List Int)(r:Ret)(h:Ac emT (Nr ls) r):CT Vb 6 ([]) ([lI ls]) r.1 r.2:=
 CT.mach (fn:=Tryz.f6) (c:=zB Tryz.f6) (S:=emS) (hd:=emH) Tryz.func6 (by kernel_rfl) (nL rfl)
  (fun s o ho=>match s,ho with
   | x,_=>x.elim)
  (fun o ho=>Scr.ok (X:=Nr ls) ho mix (
 have c0:=kno_c;
 have c1:=li_c (ls) (0) (6) (show nat_lit 0<=(5000:Nat) from(by first | exact nL rfl | decide)) (show(0:Int)<=(6:Int)/\(6:Int)<=(100:Int) from ⟨(by first | exact nL rfl | decide),(by first | exact nL rfl | decide)⟩);
 .rn 3 [] [] [(15,hK c0 [] []),(22,hK c1 [0] [])] [] (u2 (aj (aj (al (c0)) s2) (ak (aj (u2 (u2 (u2 s2))) (al (u2 (aj (ak (k3 (al (c1)))) (u2 (u2 (u2 (k2 (aj (k2 n11) (al (k2 n11)))))))))))))) <|
 .gu fun a0=>
 have c2:=MG (Ar ls 0 6) ((liL ls 0 6).cl) ((liL ls 0 6).bw) ((liL ls 0 6).pe) ((liL ls 0 6).tk) ((liL ls 0 6).us) (ByteArray.mk #[]) (ByteArray.mk #[]) (0) a0;
 .rn 0 [] [] [(29,hK c2 [] [])] [] (al (u2 (u2 (ak (aj (k3 (aj t9 (aj t6 (aj t5 (al (c2)))))) (u2 (u2 (u2 (u2 (k2 (aj (k2 n11) (aj (k2 n11) s2)))))))))))) <|
 .gu fun a1=>
 .gu fun a2=>
 .el fun x43 a3=>
 have c3:=AF (ls) (liK ls 0 6) (iN (U4 sA (Ar ls 0 6).ss).length) a1;
 have c4:=cm5_c (Ar ls 0 6) ((liL ls 0 6).cl) ((liL ls 0 6).bw) ((liL ls 0 6).pe) ((liL ls 0 6).tk) ((liL ls 0 6).us) (x43.nm) (ByteArray.mk #[]) (0) a0;
 .rn 0 [] [(43,sA x43)] [(42,hK c3 [0] []),(47,hK c4 [] [])] [] (al (u2 (u2 (u2 (u2 (u2 (u2 (u2 (u2 (aj (k5 (al (c3))) (aj (k2 (aj a2 (Af (f:=sA) a3))) (u2 (u2 (u2 (aj (k3 (aj t9 (aj t6 (aj t5 (al (c4)))))) (u2 (u2 (u2 (u2 (k2 (aj (k2 n11) (aj (k2 n11) s2)))))))))))))))))))))) <|
 .gu fun a4=>
 have c5:=MG (Ar ls 0 6) ((AW (Ar ls 0 6) (liL ls 0 6) (CmD.mk 5 x43.nm (ByteArray.mk #[]) 0)).1.cl) ((AW (Ar ls 0 6) (liL ls 0 6) (CmD.mk 5 x43.nm (ByteArray.mk #[]) 0)).1.bw) ((AW (Ar ls 0 6) (liL ls 0 6) (CmD.mk 5 x43.nm (ByteArray.mk #[]) 0)).1.pe) ((AW (Ar ls 0 6) (liL ls 0 6) (CmD.mk 5 x43.nm (ByteArray.mk #[]) 0)).1.tk) ((AW (Ar ls 0 6) (liL ls 0 6) (CmD.mk 5 x43.nm (ByteArray.mk #[]) 0)).1.us) (ByteArray.mk #[]) (ByteArray.mk #[]) (0) a4;
 .rn 0 [] [] [(55,hK c5 [] [])] [] (al (u2 (u2 (ak (aj (k3 (aj t9 (aj t6 (aj t5 (al (c5)))))) (u2 (u2 (u2 (u2 (k2 (aj (k2 n11) (aj (k2 n11) s2)))))))))))) <|
 .br (fun a5=>
 .rt [149] [] [] [] [] [] (aj (aj (u2 (u2 (u2 (aj t3 (aj t3 (aj t3 (u2 (aj t3 (aj t3 (aj t3 (u2 (aj t3 (aj t3 (aj t3 (aj t3 (u2 (aj a5 (aj a5 (aj a5 (al (aj a5 t2))))))))))))))))))))) (ak s2)) t2))
 (fun a5=>
 .rn 0 [148] [] [] [] (al (u2 (u2 (u2 (aj t3 (aj t3 (aj t3 (u2 (aj t3 (aj t3 (aj t3 (u2 (aj t3 (aj t3 (aj t3 (aj t3 (u2 (ag a5 (ag a5 (ag a5 (al (aj a5 t2)))))))))))))))))))))) <|
 .br (fun a6=>
  .rt [148,157] [] [] [] [] [] (aj (aj a6 s2) t2))
 (fun a6=>
  .rn 0 [148,156] [] [] [] (aj a6 (al (u2 (u2 s2)))) <|
  .br (fun a7=>
  .rt [148,163] [] [] [] [] [] (aj (aj a7 (al (u2 (u2 (u2 (u2 (aj t3 s2))))))) t2))
  (fun a7=>
  .br (fun a8=>
   .br (fun a9=>
   .br (fun a10=>
    .gu fun a11=>
    .el fun x115 a12=>
    .rt [148,162,187,203,221] [(115,usA x115)] [] [] [] [] (aj (aj a7 (al (u2 (u2 (u2 (u2 (u2 (aj t3 (u2 (ag a8 (ag a8 (ag a8 (ag a8 (ag a8 (aj (aj a8 t3) (ag a8 (u2 (ag a9 (ag a9 (ag a9 (ag a9 (ag a9 (ag a9 (aj (aj a9 t3) (ag a9 (u2 (ag a10 (ag a10 (ag a10 (ag a10 (aj (aj a10 (k2 (aj a11 (Af (f:=usA) a12)))) (ag a10 (ag a10 (ag a10 (ag a10 s2))))))))))))))))))))))))))))))))))) t2))
   (fun a10=>
    .rt [148,162,187,203,220] [] [] [] [] [] (aj (aj a7 (al (u2 (u2 (u2 (u2 (u2 (aj t3 (u2 (ag a8 (ag a8 (ag a8 (ag a8 (ag a8 (aj (aj a8 t3) (ag a8 (u2 (ag a9 (ag a9 (ag a9 (ag a9 (ag a9 (ag a9 (aj (aj a9 t3) (ag a9 (u2 (aj a10 (aj a10 (aj a10 (aj a10 (aj a10 (aj a10 (aj a10 (aj a10 (ag a10 s2))))))))))))))))))))))))))))))))))) t2)))
   (fun a9=>
   .rt [148,162,187,202] [] [] [] [] [] (aj (aj a7 (al (u2 (u2 (u2 (u2 (u2 (aj t3 (u2 (ag a8 (ag a8 (ag a8 (ag a8 (ag a8 (aj (aj a8 t3) (ag a8 (u2 (aj a9 (aj a9 (aj a9 (aj a9 (aj a9 (aj a9 (aj a9 (ag a9 (u2 (k3 (k5 (aj t3 s2))))))))))))))))))))))))))))) t2)))
  (fun a8=>
   .rt [148,162,186] [] [] [] [] [] (aj (aj a7 (al (u2 (u2 (u2 (u2 (u2 (aj t3 (u2 (aj a8 (aj a8 (aj a8 (aj a8 (aj a8 (aj a8 (ag a8 (u2 (k2 (k5 (aj t3 (u2 (k3 (k5 (aj t3 s2)))))))))))))))))))))))) t2)))))) (by kernel_rfl)) h
theorem rdInts{n:Nat}{es:List AV}(h:∀x∈es,ShV Vb n 3 x):∃L:List Int,es=L.map (AV.int .i64):=by
 induction es with
 | nil=>exact⟨[],rfl⟩
 | cons x es ih=>
  obtain⟨L,rfl⟩:=ih fun y hy=>h y (Uw _ hy)
  obtain⟨i,_,rfl⟩:=(h x (by simp)).intD Tryz.underlying3;exact⟨i::L,rfl⟩
theorem cnP_snoc(l:List UsD)(h:Int):cnP (l++[⟨0,false,h⟩])=cnP l+1:=by rw[Gx,Gx,EW];rfl
theorem lfe_run(ls:List Int):CT Vb 6 [] [lI ls] [] (.bool true):=by
 have hN:=(Lu (L:=ls) (kk:=0) (most:=6) (by omega) (by omega)).1;have hL:=li_s (L:=ls) (kk:=0) (w:=6) (by omega) (by omega);have hV:=hL.2;have hK:=hL.1;refine lfe_ct ls ([],_) (.val ?_);unfold Nr;have hns:=hN.ln;have hns2:=hN.v.ns;generalize Ar ls 0 6=n at *;generalize liL ls 0 6=x at *;generalize liK ls 0 6=kk at *;have hr:=Bz ls kk n.ss.length (by omega) (by omega);rw[show iN (U4 sA n.ss).length=(n.ss.length:Int) by simp only[iN,Ui]];generalize Ae ls kk (n.ss.length:Int)=z at *;obtain⟨s,hs⟩:∃s,n.ss[z.toNat]?=some s:=⟨_,Uf (by omega)⟩;have hu:=hV.ul;obtain⟨hV1,k⟩:=(bad_s n x ⟨5,s.nm,⟨#[]⟩,0⟩ hV).1;rw[Ab hV,Ab (by omega),Ab hr.1,Ak hs,Ab hV1];generalize AW n x ⟨5,s.nm,⟨#[]⟩,0⟩=p at *;have b1:=(Lz n x ⟨9,⟨#[]⟩,⟨#[]⟩,0⟩ hV).1.2;have b2:=(Lz n p.1 ⟨9,⟨#[]⟩,⟨#[]⟩,0⟩ hV1).1.2;unfold MqF at b1 b2;rw[b1,b2,Ad (by rfl),Ad (by rfl)];rcases k with ⟨k1,k2⟩ | ⟨k1,k2,h,k3⟩
 .rw[Ag (by simpa using k1),k2];simp
 .rw[Ad (by simp[k1]),k2,k3];have hc:=FW (fun u:UsD=>u.s != 3) x.us;rw[<-Gx] at hc;show br (cnP (x.us++[⟨0,false,h⟩])==i64.wrap (cnP x.us+1)) _ _=_;rw[cnP_snoc,CB (by omega) (by omega),Ag (by simp),Ag (by simp[iN]),Ag (by
   rw[CB (by omega) (by omega)];simp[iN]),Ab (by omega),Uo,Ak (show(x.us++[⟨0,false,h⟩])[x.us.length]?=some ⟨0,false,h⟩ from List.getElem?_concat_length)]
  rfl
theorem ledgerFleet_row(avs:List AV)(h:Ei Vb 6 Tryz.f6.params.toList avs):CT Vb 6 [] avs [] (.bool true):=by rw[Tryz.params6] at h;obtain⟨a,_,rfl,ka,h⟩:=h.consD;obtain rfl:=h.nilD;obtain⟨_,_,he,rfl⟩:=ka.sliceD Tryz.underlying22;obtain⟨l,rfl⟩:=rdInts he;exact lfe_run l
end Go.Proofs.YthjgbnbibebigaaGreat

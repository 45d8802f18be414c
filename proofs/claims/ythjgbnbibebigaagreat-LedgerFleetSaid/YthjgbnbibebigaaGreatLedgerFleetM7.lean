/- Parts of the proof:LfA,Le6m,SgI,SgG,Sg4m,SgJ,SgK,Le3m,LeG,LeH,AxSd,Le9m,LeI,LeJ,LgA,Lg1m,Lg2m,Lg4m,LgB,Lg5m,LgC,Lg3m,Lg6m. -/
import Derived.KernelRfl
import Derived.Test.YthjgbnbibebigaaGreatProg
import Derived.Test.YthjgbnbibebigaaGreatLedgerFleetM6
noncomputable section
set_option linter.unusedVariables false
set_option linter.unusedSimpArgs false
open Go Go.AX Go.Proofs
set_option maxRecDepth 100000
set_option linter.unusedVariables false
set_option linter.unusedSimpArgs false
open Go.IntKind (i64 u64)
open List renaming map->U4
open Go.AX.AV renaming lst->Va
open Go.Proofs.Tryz renaming prog->Vb
namespace Go.Proofs.YthjgbnbibebigaaGreat
def dpB(n:Aa)(x:Int):Bool:=decide (0<=x)&&match n.ss[x.toNat]? with | some s=>s.dep | none=>false
def hmB(n:Aa)(x:Int):Bool:=x == -1||x == -2||dpB n x
def hkE(n:Aa)(sh:List Bool)(hm:List Int):Int:=if A8 n=true/\hm.length<=8/\hm.all (hmB n)=true then (if sh.length=Al n then 0 else 19) else 20
theorem dpB_in{n:Aa}{x:Int}(h0:¬x<0)(h1:¬((n.ss.length:Int)<=x)):∃s,n.ss[x.toNat]?=some s/\dpB n x=s.dep:=by
 have hl:x.toNat<n.ss.length:=by omega
 refine⟨_,Uf hl,?_⟩;unfold dpB;rw[Uf hl,AB (by omega),Bool.true_and]
theorem QU{n:Aa}{x:Int}(h:x<0\/(n.ss.length:Int)<=x):dpB n x=false:=by
 unfold dpB;rcases h with h | h
 .rw[AA (by omega)];rfl
 .by_cases h0:0<=x
  .rw[UB (by omega)];simp
  .rw[AA h0];rfl
theorem lsA(n:Aa):iN (U4 sA n.ss).length=n.ss.length:=by simp[iN]
theorem Rm{n:Aa}{sh:List Bool}{hm:List Int}{i:Nat}{x:Int}(hx:hm[i]?=some x):Hk n sh hm i=br (hmB n x) (some (.inl (.l0 (i64.wrap ((i:Int)+1))))) (some (.inr ([],.int .i64 20))):=by
 unfold Hk hmB;rw[AS hx,lsA];by_cases a1:x = -1
 .rw[Ad (by simp[a1])];simp[a1,br]
 rw[Ag (by simpa using a1)];by_cases a2:x = -2
 .rw[Ad (by simp[a2])];simp[a2,br]
 rw[Ag (by simpa using a2),show(x == -1)=false by simpa using a1,show(x == -2)=false by simpa using a2,Ua,Ua];by_cases b1:x<0
 .rw[Ag (AB b1),QU (.inl b1)];rfl
 rw[Ad (AA b1)];by_cases b2:(n.ss.length:Int)<=x
 .rw[Ag (AB b2),QU (.inr b2)];rfl
 rw[Ad (AA b2)];obtain⟨s,hs,e⟩:=dpB_in b1 b2;rw[Ab (by omega),Ak hs,e];cases s.dep<;>rfl
theorem Tn{n:Aa}(hrw:RwV n)(sh:List Bool)(hm:List Int):CT Vb 136 [] [Ai n,.lst (boL sh),lI hm] [] (.int .i64 (hkE n sh hm)):=by
 refine hck_ct n sh hm ([],_) ?_;unfold NK hkE;rw[Ab hrw];cases hv:A8 n with
 | false=>rw[Ag (by simp[Cr,hv])];exact .ret _
 | true=>
  rw[Ad (by simp[Cr,hv])];by_cases h1:hm.length<=8
  .rw[Ad (AA (by simp[iN];omega))];refine(NQ (L:=fun i=>ET.l0 (i:Int)) (l:=hm) (p:=hmB n) (r:=([],.int .i64 (if sh.length=Al n then 0 else 19))) (rF:=([],.int .i64 20)) (fun i x hx hp=>?_) (fun i x r hx hp hr=>?_) (fun _=>?_)).res (by cases he:hm.all (hmB n)<;>simp[h1])
   .exact .to ((Rm hx).trans (Ad hp)) (.ret _)
   .refine .to ((Rm hx).trans ?_) hr;have hl:=(Uh.1 hx).1;rw[Ag hp,zW i (by omega)]
   .refine .to (show Hk n sh hm hm.length=some (.inr ([],.int .i64 (if sh.length=Al n then 0 else 19))) from ?_) (.ret _);unfold Hk;rw[AO];by_cases hs:sh.length=Al n
    .rw[Ad (by simp[iN,Bi,hv,boL,hs]),Ud hs]
    .rw[Ag (by simp[iN,Bi,hv,boL];omega),Ue hs]
  .rw[Ag (AB (by simp[iN];omega)),Ue (fun h=>h1 h.2.1)];exact .ret _
def odB(n:Aa)(sh:List Bool)(sp:Int):Bool:=opB n sh sp&&dpB n sp
theorem hopen_ct(n:Aa)(sh:List Bool)(sp:Int)(hrw:RwV n)(hv:Aq n)(hl:sh.length=Al n)(h:0<=sp/\sp<n.ss.length):CT Vb 155 [] [Ai n,.lst (boL sh),.int .i64 sp] [] (.bool (odB n sh sp)):=by refine hOp_ct n sh sp ([],_) (.val ?_);unfold L2 odB dpB;obtain⟨s,hs⟩:∃s,n.ss[sp.toNat]?=some s:=⟨_,Uf (by omega)⟩;rw[Ab hrw,PQ hv hl h,hs,Ab h.1,Ak hs,AB h.1];cases opB n sh sp<;>simp[br]
def hcZ(hm:List Int)(sp:Int)(i:Nat):Int:=((hm.take i).filter (fun x=>x==sp)).length
theorem RI{hm:List Int}{sp:Int}{i:Nat}{x:Int}(hx:hm[i]?=some x):hcZ hm sp (i+1)=hcZ hm sp i+if x==sp then 1 else 0:=by unfold hcZ;rw[List.take_add_one,hx,Option.toList_some,List.filter_append,Uy];cases h:x==sp<;>simp[List.filter,h]
theorem PE(hm:List Int)(sp:Int)(i:Nat):0<=hcZ hm sp i/\hcZ hm sp i<=hm.length:=by unfold hcZ;have h:=List.length_filter_le (fun x=>x==sp) (hm.take i);rw[UF] at h;omega
def plV(k:Int)(hm:List Int)(sp:Int):Int:=if k-hcZ hm sp hm.length<0 then 0 else k-hcZ hm sp hm.length
def slk(n:Aa)(sp:Int):Int:=match n.ss[sp.toNat]? with | some s=>s.k | none=>0
def plZ(n:Aa)(sh:List Bool)(hm:List Int)(sp:Int):Int:=if odB n sh sp=true then plV (slk n sp) hm sp else 0
theorem R5(n:Aa)(sh:List Bool)(hm:List Int)(sp:Int)(hv:Aq n)(hl:sh.length=Al n)(h:0<=sp/\sp<n.ss.length)(h8:hm.length<=1000):CT Vb 115 [] [Ai n,.lst (boL sh),lI hm,.int .i64 sp] [] (.int .i64 (plZ n sh hm sp)):=by
 refine rPl_ct n sh hm sp ([],_) ?_;obtain⟨s,hs⟩:∃s,n.ss[sp.toNat]?=some s:=⟨_,Uf (by omega)⟩;have hs':n.ss[sp.toNat]?=some s:=hs;have sb:=hv.sb hs;unfold OD plZ odB dpB slk;rw[Ab h.1,Ak hs,hs,AB h.1];show Ac _ _ (([],.int .i64 (if (opB n sh sp&&(true&&s.dep))=true then plV s.k hm sp else 0)):Ret);cases hd:s.dep with
 | false=>rw[Ag (by rfl),Bool.and_false,Bool.and_false];exact .ret _
 | true=>
  rw[Ad (by rfl),Ab hv,Ab hl,Ab h];cases ho:opB n sh sp with
  | false=>exact .ret _
  | true=>
   rw[Ad (by rfl),Ak hs,Ud (by rfl)];unfold plV;have e0:s.k=s.k-hcZ hm sp 0:=by unfold hcZ;simp
   suffices hh:Ac (Q3 n sh hm sp) (some (.inl (.l0 (s.k-hcZ hm sp 0) ((0:Nat):Int)))) (([],.int .i64 (if s.k-hcZ hm sp hm.length<0 then 0 else s.k-hcZ hm sp hm.length)):Ret) by rw[<-e0] at hh;exact hh
   refine Bm (fun i=>FV.l0 (s.k-hcZ hm sp i) (i:Int)) hm.length (fun i hi hr=>.to ?_ hr) (.to ?_ (.ret _))
   .obtain⟨x,hx⟩:∃x,hm[i]?=some x:=⟨_,Uf hi⟩;have b:=PE hm sp i;show HJ n sh hm sp _ i=_;unfold HJ;rw[AS hx,RI hx,zW i (by omega),A3 (s.k-hcZ hm sp i-1) (by omega) (by omega)];cases x==sp with
    | false=>simp[br]
    | true=>simp only[br,if_true];rw[show s.k-hcZ hm sp i-1=s.k-(hcZ hm sp i+1) by omega]
   .show HJ n sh hm sp _ hm.length=_;unfold HJ;rw[AO]
end Go.Proofs.YthjgbnbibebigaaGreat
set_option maxHeartbeats 4000000
namespace Go.Proofs.YthjgbnbibebigaaGreat
theorem fln_c{n:Aa}(hrw:RwV n)(hv:Aq n):CT Vb 52 [] [Ai n] [] (.tup [.agg [.int .i64 (flE n),.any,.int .i64 (flS n),.int .i64 (flC n)],.int .i64 0]):=by unfold flE flS flC;exact(UP (H2 n) hrw.1 hrw.2).2
def lgB(a b c d e:AV):AV:=.agg [a,b,c,d,e]
def lgH(cl:List Bool)(bw pe:List Int)(tk:List TsD)(us:List UsD):List (Option Blk):=[some {es:=[lgB (.sl 1 0 cl.length) (.sl 2 0 bw.length) (.sl 3 0 pe.length) (.sl 4 0 tk.length) (.sl 5 0 us.length)],z:=5,flat:=false},some {es:=boL cl,z:=1},some {es:=bw.map (AV.int .i64),z:=1},some {es:=pe.map (AV.int .i64),z:=1},some {es:=tk.map tsA,z:=5},some {es:=us.map usA,z:=13}]
def Lb(n:Aa)(cl:List Bool)(bw pe:List Int)(tk:List TsD)(us:List UsD)(c:CmD):Option (Empty⊕Ret):=br (c.a.toList==c.b.toList) (some (.inr (lgH cl bw pe tk us,AV.agg [iV 0,iV 0]))) (gu (n.ss.length<=1000000) <|br (decide (Aw n c.a<0)) (some (.inr (lgH cl bw pe tk us,AV.agg [iV 3,iV 0]))) (br (decide (Aw n c.b<0)) (some (.inr (lgH cl bw pe tk us,AV.agg [iV 3,iV 0]))) (gu (0<=Aw n c.a) <|el (n.ss) ((Aw n c.a).toNat) fun(x34:Av)=>br (x34.dep) (some (.inr (lgH cl bw pe tk us,AV.agg [iV 3,iV 0]))) (gu (0<=Aw n c.b) <|el (n.ss) ((Aw n c.b).toNat) fun(x42:Av)=>br (x42.dep) (some (.inr (lgH cl bw pe tk us,AV.agg [iV 3,iV 0]))) (gu ((Aj.mk cl bw pe).cl.length<=1000000) <|gu ((Aj.mk cl bw pe).pe.length<=1000000) <|gu (∀(b:Int),b∈(Aj.mk cl bw pe).pe->0<=b/\b<iN (Aj.mk cl bw pe).cl.length) <|gu (cl.length=(boL cl).length) <|gu (∀(blk:Blk),blk∈[bK (boL (AD (Aj.mk cl bw pe))) 1]->A5 blk) <|gu (Aq n) <|gu ((AD (Aj.mk cl bw pe)).length=Al n) <|gu (0<=Aw n c.a/\Aw n c.a<iN n.ss.length) <|gu ((AD (Aj.mk cl bw pe)).length=(boL (AD (Aj.mk cl bw pe))).length) <|br (!opB n (AD (Aj.mk cl bw pe)) (Aw n c.a)) (some (.inr (lgH cl bw pe tk us,AV.agg [iV 4,iV 0]))) (gu (0<=Aw n c.b/\Aw n c.b<iN n.ss.length) <|br (!opB n (AD (Aj.mk cl bw pe)) (Aw n c.b)) (some (.inr (lgH cl bw pe tk us,AV.agg [iV 4,iV 0]))) (gu (tk.length<=1000000) <|br (decide (n.q<=tcZ tk)) (some (.inr (lgH cl bw pe tk us,AV.agg [iV 2,iV 0]))) (br (iN tk.length==32) (some (.inr (lgH cl bw pe tk us,AV.agg [iV 2,iV 0]))) (gu ((U4 tsA tk).length+[AV.agg [iV (Aw n c.a),iV (Aw n c.b),iV 0,iV (-1),iV 0]].length<=9223372036854775807) <|gu (((U4 tsA tk).length+[AV.agg [iV (Aw n c.a),iV (Aw n c.b),iV 0,iV (-1),iV 0]].length) * 40<=140737488355328) <|some (.inr ([some (Blk.mk [AV.agg [AV.sl 1 0 cl.length,AV.sl 2 0 bw.length,AV.sl 3 0 pe.length,AV.sl 4 0 ((U4 tsA tk).length+[AV.agg [iV (Aw n c.a),iV (Aw n c.b),iV 0,iV (-1),iV 0]].length),AV.sl 5 0 us.length]] 5 false true none),some (bK (boL cl) 1),some (bK (U4 iV bw) 1),some (bK (U4 iV pe) 1),some (bK (U4 tsA tk++[AV.agg [iV (Aw n c.a),iV (Aw n c.b),iV 0,iV (-1),iV 0]]) 5),some (bK (U4 usA us) 13)],AV.agg [iV 1,iV (i64.wrap (iN ((U4 tsA tk).length+[AV.agg [iV (Aw n c.a),iV (Aw n c.b),iV 0,iV (-1),iV 0]].length)-1))])))))))))))
theorem tsk_ct(n:Aa)(cl:List Bool)(bw pe:List Int)(tk:List TsD)(us:List UsD)(c:CmD)(r:Ret)(h:Ac emT (Lb n cl bw pe tk us c) r):CTX Vb 57 (lgH cl bw pe tk us) ([Ai n,.ptr 0 0 0,cmA c]) r.1 r.2:=
 CTX.mach (fn:=Tryz.f57) (c:=zB Tryz.f57) (S:=emS) (hd:=emH) Tryz.func57 (by kernel_rfl) (nL rfl) (nL rfl)
  (fun s o ho=>match s,ho with
   | x,_=>x.elim)
  (fun o ho=>Scr.ok (X:=Lb n cl bw pe tk us c) ho mix (
 .rn 1 [] [] [] [] (aj (u2 (u2 t2)) (al (u2 (u2 (u2 (u2 (al t3))))))) <|
 .br (fun a0=>
 have c0:=AQ (0);
 .rt [29] [] [(15,hK c0 [] [])] [] [0,1,2,3,4,5] [] (aj (aj a0 (al (aj (ak (al (c0))) (al (k2 n11))))) (aj t3 (aj (al t6) t6))))
 (fun a0=>
 .gu fun a1=>
 have c0:=K5 n (c.a) a1;
 have c1:=K5 n (c.b) a1;
 .rn 0 [28] [] [(19,hK c0 [] []),(23,hK c1 [] [])] [] (aj a0 (al (u2 (u2 (u2 (aj (k2 (aj t9 (ak (al (c0))))) (u2 (u2 (u2 (aj (k2 (aj t9 (ak (al (c1))))) (u2 s2))))))))))) <|
 .br (fun a2=>
  have c2:=AQ (3);
  .rt [53] [] [(46,hK c2 [] [])] [] [0,1,2,3,4,5] [] (aj (aj (u2 (u2 (u2 (aj a2 (aj a2 (ag a2 (u2 (ak (k5 (aj t3 (u2 (ak (k5 (al t3)))))))))))))) (ak (al (aj (ak (al (c2))) (al (k2 n11)))))) (aj t3 (aj (al t6) t6))))
 (fun a2=>
  .br (fun a3=>
  have c2:=AQ (3);
  .rt [52,61] [] [(46,hK c2 [] [])] [] [0,1,2,3,4,5] [] (aj (aj (u2 (u2 (u2 (ag a2 (ag a2 (ag a2 (u2 (aj a3 (aj a3 (aj a3 (aj a3 (aj a3 (aj a3 (ag a3 (u2 (ak (k5 (al t3)))))))))))))))))) (ak (al (aj (ak (al (c2))) (al (k2 n11)))))) (aj t3 (aj (al t6) t6))))
  (fun a3=>
  .gu fun a4=>
  .el fun x34 a5=>
  .br (fun a6=>
   have c2:=AQ (3);
   .rt [52,60,77] [(34,sA x34)] [(46,hK c2 [] [])] [] [0,1,2,3,4,5] [] (aj (aj (u2 (u2 (u2 (ag a2 (ag a2 (ag a2 (u2 (ag a3 (ag a3 (ag a3 (aj (aj a3 (k2 (aj a4 (Af (f:=sA) a5)))) (ag a3 (ag a3 (ag a3 (u2 (aj a6 (aj a6 (aj a6 (aj a6 (aj a6 (aj a6 (al (aj a6 t2))))))))))))))))))))))) (ak (al (aj (ak (al (c2))) (al (k2 n11)))))) (aj t3 (aj (al t6) t6))))
  (fun a6=>
   .gu fun a7=>
   .el fun x42 a8=>
   .rn 0 [52,60,76] [(34,sA x34),(42,sA x42)] [] [] (al (u2 (u2 (u2 (ag a2 (ag a2 (ag a2 (u2 (ag a3 (ag a3 (ag a3 (aj (aj a3 (k2 (aj a4 (Af (f:=sA) a5)))) (ag a3 (ag a3 (ag a3 (u2 (ag a6 (ag a6 (ag a6 (aj (aj a6 (k2 (aj a7 (Af (f:=sA) a8)))) (ag a6 (ag a6 (al (aj a6 t2)))))))))))))))))))))))) <|
   .br (fun a9=>
   have c2:=AQ (3);
   .rt [52,60,76,91] [] [(46,hK c2 [] [])] [] [0,1,2,3,4,5] [] (aj (aj a9 (al (aj (ak (al (c2))) (al (k2 n11))))) (aj t3 (aj (al t6) t6))))
   (fun a9=>
   .gu fun a10=>
   .gu fun a11=>
   .gu fun a12=>
   .gu fun a13=>
   .gu fun a14=>
   have c2:=NA (Aj.mk cl bw pe) a10 a11 a12;
   .rn 0 [52,60,76,90] [] [(51,hK c2 [] [1,2,3])] [] (aj a9 (al (u2 (u2 (u2 (u2 (aj (ak (aj (aj a13 (aj (show bw.length=(U4 iv bw).length by simp) (al (show pe.length=(U4 iv pe).length by simp)))) (aj (c2) a14))) s2))))))) <|
   .gu fun a15=>
   .gu fun a16=>
   .gu fun a17=>
   .gu fun a18=>
   .br (fun a19=>
    have c3:=Jm n (AD (Aj.mk cl bw pe)) (Aw n c.a) a15 a16 a17;
    have c4:=AQ (4);
    .rt [52,60,76,115] [] [(55,hK c3 [] [9]),(64,hK c4 [] [])] [] [0,1,2,3,4,5] [] (aj (aj (u2 (u2 (u2 (aj (k3 (aj t9 (aj a18 (ak (aj (c3) (show ∀(blk:Blk),blk∈[]->A5 blk from(by intro _ h;cases h))))))) (u2 (u2 (aj a19 (aj a19 (aj a19 (aj a19 (aj a19 (al (aj a19 t2))))))))))))) (ak (al (aj (ak (al (c4))) (al (k2 n11)))))) (aj t3 (aj (al t6) t6))))
   (fun a19=>
    .gu fun a20=>
    have c3:=Jm n (AD (Aj.mk cl bw pe)) (Aw n c.a) a15 a16 a17;
    have c4:=Jm n (AD (Aj.mk cl bw pe)) (Aw n c.b) a15 a16 a20;
    .rn 0 [52,60,76,114] [] [(55,hK c3 [] [9]),(61,hK c4 [] [9])] [] (al (u2 (u2 (u2 (aj (k3 (aj t9 (aj a18 (ak (aj (c3) (show ∀(blk:Blk),blk∈[]->A5 blk from(by intro _ h;cases h))))))) (u2 (u2 (ag a19 (ag a19 (ag a19 (aj (aj a19 (k3 (aj t9 (aj a18 (ak (aj (c4) (show ∀(blk:Blk),blk∈[]->A5 blk from(by intro _ h;cases h)))))))) (ag a19 (al (aj a19 t2)))))))))))))) <|
    .br (fun a21=>
    have c5:=AQ (4);
    .rt [52,60,76,114,127] [] [(64,hK c5 [] [])] [] [0,1,2,3,4,5] [] (aj (aj a21 (al (aj (ak (al (c5))) (al (k2 n11))))) (aj t3 (aj (al t6) t6))))
    (fun a21=>
    .gu fun a22=>
    .br (fun a23=>
     have c5:=Oy (tk) a22;
     have c6:=AQ (2);
     .rt [52,60,76,114,126,149] [] [(69,hK c5 [] [4]),(82,hK c6 [] [])] [] [0,1,2,3,4,5] [] (aj (aj a21 (aj (u2 (u2 (u2 (u2 (aj (ak (aj (show tk.length=(U4 tsA tk).length by simp) (aj (c5) (show ∀(blk:Blk),blk∈[]->A5 blk from(by intro _ h;cases h))))) (u2 (u2 (u2 (aj t3 (u2 (aj a23 (aj a23 (aj a23 (aj a23 (aj a23 (aj a23 (al (aj a23 t2)))))))))))))))))) (ak (al (aj (ak (al (c6))) (al (k2 n11))))))) (aj t3 (aj (al t6) t6))))
    (fun a23=>
     have c5:=Oy (tk) a22;
     .rn 0 [52,60,76,114,126,148] [] [(69,hK c5 [] [4])] [] (aj a21 (al (u2 (u2 (u2 (u2 (aj (ak (aj (show tk.length=(U4 tsA tk).length by simp) (aj (c5) (show ∀(blk:Blk),blk∈[]->A5 blk from(by intro _ h;cases h))))) (u2 (u2 (u2 (aj t3 (u2 (ag a23 (ag a23 (ag a23 (ag a23 (ag a23 (ag a23 (al (aj a23 t2)))))))))))))))))))) <|
     .br (fun a24=>
     have c6:=AQ (2);
     .rt [52,60,76,114,148,163] [] [(82,hK c6 [] [])] [] [0,1,2,3,4,5] [] (aj (aj a24 (al (aj (ak (al (c6))) (al (k2 n11))))) (aj t3 (aj (al t6) t6))))
     (fun a24=>
     .gu fun a25=>
     .gu fun a26=>
     .rt [52,60,76,114,148,162] [] [] [] [0,1,2,3,11,5] [] (aj (aj a24 (aj (u2 (u2 (u2 (u2 (u2 (u2 (u2 (aj t3 (u2 (aj (k2 (aj (show(U4 tsA tk).length=tk.length by simp) (aj (aj (show nat_lit 5=nat_lit 5 from rfl) (show 1<=[AV.agg [iv (Aw n c.a),iv (Aw n c.b),iv 0,iv (-1),iv 0]].length by simp)) (aj a25 a26)))) (u2 (u2 (al t3))))))))))))) (al (u2 (u2 (u2 (u2 (u2 (u2 (u2 (al (k2 n11)))))))))))) (aj t3 (aj (al t6) t6))))))))))))) (by kernel_rfl)) h
def Ke(cl:List Bool)(bw pe:List Int)(tk:List TsD)(us:List UsD)(c:CmD):Option (Empty⊕Ret):=br (decide (c.q<0)) (some (.inr (lgH cl bw pe tk us,AV.agg [iV 3,iV 0]))) (br (decide (iN tk.length<=c.q)) (some (.inr (lgH cl bw pe tk us,AV.agg [iV 3,iV 0]))) (gu (0<=c.q) <|gu (c.q<iN tk.length) <|el (tk) (0+c.q.toNat) fun(x27:TsD)=>br (decide (3<=x27.s)) (some (.inr (lgH cl bw pe tk us,AV.agg [iV 11,iV 0]))) (el (tk) (0+c.q.toNat) fun(x37:TsD)=>some (.inr ([some (Blk.mk [AV.agg [AV.sl 1 0 cl.length,AV.sl 2 0 bw.length,AV.sl 3 0 pe.length,AV.sl 4 0 tk.length,AV.sl 5 0 us.length]] 5 false true none),some (bK (boL cl) 1),some (bK (U4 iV bw) 1),some (bK (U4 iV pe) 1),some (bK ((U4 tsA tk).set (0+c.q.toNat) (AV.agg [iV x37.p,iV x37.d,iV 4,iV x37.q,iV x37.ov])) 5),some (bK (U4 usA us) 13)],AV.agg [iV 1,iV 0])))))
theorem can_ct(cl:List Bool)(bw pe:List Int)(tk:List TsD)(us:List UsD)(c:CmD)(r:Ret)(h:Ac emT (Ke cl bw pe tk us c) r):CTX Vb 58 (lgH cl bw pe tk us) ([.ptr 0 0 0,cmA c]) r.1 r.2:=
 CTX.mach (fn:=Tryz.f58) (c:=zB Tryz.f58) (S:=emS) (hd:=emH) Tryz.func58 (by kernel_rfl) (nL rfl) (nL rfl)
  (fun s o ho=>match s,ho with
   | x,_=>x.elim)
  (fun o ho=>Scr.ok (X:=Ke cl bw pe tk us c) ho mix (
 .rn 0 [] [] [] [] (al (u2 t2)) <|
 .br (fun a0=>
 have c0:=AQ (3);
 .rt [17] [] [(18,hK c0 [] [])] [] [0,1,2,3,4,5] [] (aj (aj (u2 (u2 (u2 (u2 (aj a0 (aj a0 (aj a0 (aj a0 (aj a0 (aj a0 (aj a0 (aj a0 (al (aj a0 t2)))))))))))))) (ak (al (aj (ak (al (c0))) (al (k2 n11)))))) (aj t3 (aj (al t6) t6))))
 (fun a0=>
 .rn 0 [16] [] [] [] (al (u2 (u2 (u2 (u2 (ag a0 (ag a0 (ag a0 (ag a0 (ag a0 (ag a0 (ag a0 (aj (aj a0 t3) (al (aj a0 t2))))))))))))))) <|
 .br (fun a1=>
  have c0:=AQ (3);
  .rt [16,35] [] [(18,hK c0 [] [])] [] [0,1,2,3,4,5] [] (aj (aj a1 (al (aj (ak (al (c0))) (al (k2 n11))))) (aj t3 (aj (al t6) t6))))
 (fun a1=>
  .gu fun a2=>
  .gu fun a3=>
  .el fun x27 a4=>
  .rn 0 [16,34] [(27,tsA x27)] [] [] (aj a1 (al (u2 (u2 (u2 (u2 (u2 (u2 (aj (k2 (aj a2 a3)) (u2 (aj (ak (Af (f:=tsA) a4)) s2))))))))))) <|
  .br (fun a5=>
  have c0:=AQ (11);
  .rt [16,57] [] [(29,hK c0 [] [])] [] [0,1,2,3,4,5] [] (aj (aj a5 (al (aj (ak (al (c0))) (al (k2 n11))))) (aj t3 (aj (al t6) t6))))
  (fun a5=>
  .el fun x37 a6=>
  have c0:=AQ (1);
  .rt [16,56] [(37,tsA x37)] [(38,hK c0 [] [])] [] [0,1,2,3,4,5] [] (aj (aj a5 (aj (u2 (u2 (u2 (u2 (u2 (u2 (aj (k2 (aj a2 a3)) (u2 (al (ak (Af (f:=tsA) a6))))))))))) (al (aj (ak (al (c0))) (al (k2 n11)))))) (aj t3 (aj (al t6) t6))))))) (by kernel_rfl)) h
def KH(n:Aa)(cl:List Bool)(bw pe:List Int)(tk:List TsD)(us:List UsD)(c:CmD):Option (Empty⊕Ret):=gu (n.bs.length<=1000000) <|br (decide (Az n c.a<0)) (some (.inr (lgH cl bw pe tk us,AV.agg [iV 3,iV 0]))) (gu ((Aj.mk cl bw pe).cl.length<=1000000) <|gu ((Aj.mk cl bw pe).pe.length<=1000000) <|gu (∀(b:Int),b∈(Aj.mk cl bw pe).pe->0<=b/\b<iN (Aj.mk cl bw pe).cl.length) <|gu (cl.length=(boL cl).length) <|gu (∀(blk:Blk),blk∈[bK (boL (AD (Aj.mk cl bw pe))) 1]->A5 blk) <|gu (0<=Az n c.a) <|gu (Az n c.a<iN (AD (Aj.mk cl bw pe)).length) <|el (AD (Aj.mk cl bw pe)) (0+(Az n c.a).toNat) fun(x27:Bool)=>br x27 (some (.inr (lgH cl bw pe tk us,AV.agg [iV 6,iV 0]))) (gu (us.length<=1000000) <|gu (Aq n) <|gu ((AD (Aj.mk cl bw pe)).length=Al n) <|gu (RwV n) <|gu (0<=Az n c.a/\Az n c.a<iN n.bs.length) <|gu ((AD (Aj.mk cl bw pe)).length=(boL (AD (Aj.mk cl bw pe))).length) <|br (!alB n (AD (Aj.mk cl bw pe)) (Az n c.a) (cnF us)) (some (.inr (lgH cl bw pe tk us,AV.agg [iV 5,iV 0]))) (gu ((U4 iV pe).length+[iV (Az n c.a)].length<=9223372036854775807) <|gu (((U4 iV pe).length+[iV (Az n c.a)].length) * 8<=140737488355328) <|some (.inr ([some (Blk.mk [AV.agg [AV.sl 1 0 cl.length,AV.sl 2 0 bw.length,AV.sl 3 0 ((U4 iV pe).length+[iV (Az n c.a)].length),AV.sl 4 0 tk.length,AV.sl 5 0 us.length]] 5 false true none),some (bK (boL cl) 1),some (bK (U4 iV bw) 1),some (bK (U4 iV pe++[iV (Az n c.a)]) 1),some (bK (U4 tsA tk) 5),some (bK (U4 usA us) 13)],AV.agg [iV 1,iV 0])))))
theorem shb_ct(n:Aa)(cl:List Bool)(bw pe:List Int)(tk:List TsD)(us:List UsD)(c:CmD)(r:Ret)(h:Ac emT (KH n cl bw pe tk us c) r):CTX Vb 59 (lgH cl bw pe tk us) ([Ai n,.ptr 0 0 0,cmA c]) r.1 r.2:=
 CTX.mach (fn:=Tryz.f59) (c:=zB Tryz.f59) (S:=emS) (hd:=emH) Tryz.func59 (by kernel_rfl) (nL rfl) (nL rfl)
  (fun s o ho=>match s,ho with
   | x,_=>x.elim)
  (fun o ho=>Scr.ok (X:=KH n cl bw pe tk us c) ho mix (
 .rn 0 [] [] [] [] (al (u2 (u2 t2))) <|
 .gu fun a0=>
 have c0:=Pp n (c.a) a0;
 .rn 1 [] [] [(15,hK c0 [] [])] [] (aj (u2 (u2 (u2 (aj (k2 (aj t9 (ak (al (c0))))) s2)))) (al (u2 s2))) <|
 .br (fun a1=>
 have c1:=AQ (3);
 .rt [35] [] [(18,hK c1 [] [])] [] [0,1,2,3,4,5] [] (aj (aj a1 (al (aj (ak (al (c1))) (al (k2 n11))))) (aj t3 (aj (al t6) t6))))
 (fun a1=>
 .gu fun a2=>
 .gu fun a3=>
 .gu fun a4=>
 .gu fun a5=>
 .gu fun a6=>
 have c1:=NA (Aj.mk cl bw pe) a2 a3 a4;
 .rn 0 [34] [] [(23,hK c1 [] [1,2,3])] [] (aj a1 (al (u2 (u2 (u2 (u2 (aj (ak (aj (aj a5 (aj (show bw.length=(U4 iv bw).length by simp) (al (show pe.length=(U4 iv pe).length by simp)))) (aj (c1) a6))) s2))))))) <|
 .gu fun a7=>
 .gu fun a8=>
 .el fun x27 a9=>
 .rn 0 [] [(27,bV x27)] [] [] (al (u2 (u2 (aj (k2 (aj a7 a8)) (al (ak (Af (f:=bV) a9))))))) <|
 .br (fun a10=>
  have c2:=AQ (6);
  .rt [55] [] [(28,hK c2 [] [])] [] [0,1,2,3,4,5] [] (aj (aj a10 (al (aj (ak (al (c2))) (al (k2 n11))))) (aj t3 (aj (al t6) t6))))
 (fun a10=>
  .gu fun a11=>
  have c2:=JQ (us) a11;
  .rn 0 [54] [] [(34,hK c2 [] [5])] [] (aj a10 (al (u2 (u2 (u2 (u2 (aj (ak (aj (show us.length=(U4 usA us).length by simp) (aj (c2) (show ∀(blk:Blk),blk∈[]->A5 blk from(by intro _ h;cases h))))) (u2 (u2 (u2 (u2 (u2 (u2 s2))))))))))))) <|
  .gu fun a12=>
  .gu fun a13=>
  .gu fun a14=>
  .gu fun a15=>
  .gu fun a16=>
  have c3:=ral_c (cnF us) a12 a13 a14 a15;
  .rn 0 [] [] [(42,hK c3 [] [9])] [] (al (u2 (u2 (u2 (u2 (aj (ak (k3 (aj t9 (aj a16 (k2 (aj (c3) (show ∀(blk:Blk),blk∈[]->A5 blk from(by intro _ h;cases h)))))))) s2)))))) <|
  .br (fun a17=>
  have c4:=AQ (5);
  .rt [87] [] [(44,hK c4 [] [])] [] [0,1,2,3,4,5] [] (aj (aj a17 (al (aj (ak (al (c4))) (al (k2 n11))))) (aj t3 (aj (al t6) t6))))
  (fun a17=>
  .gu fun a18=>
  .gu fun a19=>
  have c4:=AQ (1);
  .rt [86] [] [(57,hK c4 [] [])] [] [0,1,2,11,4,5] [] (aj (aj a17 (aj (u2 (u2 (u2 (u2 (u2 (u2 (u2 (u2 (aj (k2 (aj (show(U4 iv pe).length=pe.length by simp) (aj (aj (show nat_lit 1=nat_lit 1 from rfl) (show 1<=[iv (Az n c.a)].length by simp)) (aj a18 a19)))) (u2 (u2 (u2 (al t3))))))))))))) (al (aj (ak (al (c4))) (al (k2 n11)))))) (aj t3 (aj (al t6) t6))))))) (by kernel_rfl)) h
def Kr(cl:List Bool)(bw pe:List Int)(tk:List TsD)(us:List UsD)(c:CmD):Option (Empty⊕Ret):=br (decide (c.q<0)) (some (.inr (lgH cl bw pe tk us,AV.agg [iV 3,iV 0]))) (br (decide (iN us.length<=c.q)) (some (.inr (lgH cl bw pe tk us,AV.agg [iV 3,iV 0]))) (gu (0<=c.q) <|gu (c.q<iN us.length) <|el (us) (0+c.q.toNat) fun(x31:UsD)=>br (x31.s==3) (some (.inr (lgH cl bw pe tk us,AV.agg [iV 3,iV 0]))) (el (us) (0+c.q.toNat) fun(x42:UsD)=>br (x42.s==2) (some (.inr (lgH cl bw pe tk us,AV.agg [iV 1,iV 0]))) (br (x42.lv) (some (.inr (lgH cl bw pe tk us,AV.agg [iV 1,iV 0]))) (gu (us.length<=1000000) <|br (cnW us==1) (some (.inr (lgH cl bw pe tk us,AV.agg [iV 9,iV 0]))) (el (us) (0+c.q.toNat) fun(x70:UsD)=>some (.inr ([some (Blk.mk [AV.agg [AV.sl 1 0 cl.length,AV.sl 2 0 bw.length,AV.sl 3 0 pe.length,AV.sl 4 0 tk.length,AV.sl 5 0 us.length]] 5 false true none),some (bK (boL cl) 1),some (bK (U4 iV bw) 1),some (bK (U4 iV pe) 1),some (bK (U4 tsA tk) 5),some (bK ((U4 usA us).set (0+c.q.toNat) (AV.agg [iV x70.s,bV true,iV x70.hm,iV 0,iV 0,uV 0,bV false,bV false,iV 0,iV 0,Va [],iV 0,iV 0])) 13)],AV.agg [iV 1,iV 0]))))))))
theorem rem_ct(cl:List Bool)(bw pe:List Int)(tk:List TsD)(us:List UsD)(c:CmD)(r:Ret)(h:Ac emT (Kr cl bw pe tk us c) r):CTX Vb 62 (lgH cl bw pe tk us) ([.ptr 0 0 0,cmA c]) r.1 r.2:=
 CTX.mach (fn:=Tryz.f62) (c:=zB Tryz.f62) (S:=emS) (hd:=emH) Tryz.func62 (by kernel_rfl) (nL rfl) (nL rfl)
  (fun s o ho=>match s,ho with
   | x,_=>x.elim)
  (fun o ho=>Scr.ok (X:=Kr cl bw pe tk us c) ho mix (
 .rn 0 [] [] [] [] (al (u2 t2)) <|
 .br (fun a0=>
 have c0:=AQ (3);
 .rt [25] [] [(34,hK c0 [] [])] [] [0,1,2,3,4,5] [] (aj (aj (u2 (u2 (u2 (u2 (aj a0 (aj a0 (aj a0 (aj a0 (aj a0 (aj a0 (aj a0 (aj a0 (ag a0 (u2 (k5 (k5 (al t3))))))))))))))))) (ak (al (aj (ak (al (c0))) (al (k2 n11)))))) (aj t3 (aj (al t6) t6))))
 (fun a0=>
 .br (fun a1=>
  have c0:=AQ (3);
  .rt [24,45] [] [(34,hK c0 [] [])] [] [0,1,2,3,4,5] [] (aj (aj (u2 (u2 (u2 (u2 (ag a0 (ag a0 (ag a0 (ag a0 (ag a0 (ag a0 (ag a0 (aj (aj a0 t3) (ag a0 (u2 (aj a1 (aj a1 (aj a1 (aj a1 (aj a1 (aj a1 (aj a1 (aj a1 (aj a1 (aj a1 (al (aj a1 t2)))))))))))))))))))))))))) (ak (al (aj (ak (al (c0))) (al (k2 n11)))))) (aj t3 (aj (al t6) t6))))
 (fun a1=>
  .gu fun a2=>
  .gu fun a3=>
  .el fun x31 a4=>
  .rn 0 [24,44] [(31,usA x31)] [] [] (al (u2 (u2 (u2 (u2 (ag a0 (ag a0 (ag a0 (ag a0 (ag a0 (ag a0 (ag a0 (aj (aj a0 t3) (ag a0 (u2 (ag a1 (ag a1 (ag a1 (ag a1 (ag a1 (ag a1 (aj (aj a1 (k2 (aj a2 a3))) (ag a1 (aj (aj a1 (ak (Af (f:=usA) a4))) (ag a1 (al (aj a1 t2))))))))))))))))))))))))))) <|
  .br (fun a5=>
  have c0:=AQ (3);
  .rt [24,44,67] [] [(34,hK c0 [] [])] [] [0,1,2,3,4,5] [] (aj (aj a5 (al (aj (ak (al (c0))) (al (k2 n11))))) (aj t3 (aj (al t6) t6))))
  (fun a5=>
  .el fun x42 a6=>
  .rn 0 [24,44,66] [(42,usA x42)] [] [] (aj a5 (al (u2 (u2 (u2 (u2 (u2 (u2 (aj (k2 (aj a2 a3)) (aj (ak (Af (f:=usA) a6)) (ak (al (k2 n11))))))))))))) <|
  .br (fun a7=>
   have c0:=AQ (1);
   .rt [24,44,93] [] [(50,hK c0 [] [])] [] [0,1,2,3,4,5] [] (aj (aj (u2 (u2 (u2 (u2 (aj a7 (aj a7 (al (aj a7 t2)))))))) (ak (al (aj (ak (al (c0))) (al (k2 n11)))))) (aj t3 (aj (al t6) t6))))
  (fun a7=>
   .rn 0 [24,44,92] [] [] [] (al (u2 (u2 (u2 (u2 (ag a7 (ag a7 (al (aj a7 t2))))))))) <|
   .br (fun a8=>
   have c0:=AQ (1);
   .rt [24,44,92,99] [] [(50,hK c0 [] [])] [] [0,1,2,3,4,5] [] (aj (aj a8 (al (aj (ak (al (c0))) (al (k2 n11))))) (aj t3 (aj (al t6) t6))))
   (fun a8=>
   .gu fun a9=>
   have c0:=JQ (us) a9;
   .rn 1 [24,44,92,98] [] [(56,hK c0 [] [5])] [] (aj a8 (aj (u2 (u2 (u2 (u2 (aj (ak (aj (show us.length=(U4 usA us).length by simp) (aj (c0) (show ∀(blk:Blk),blk∈[]->A5 blk from(by intro _ h;cases h))))) (u2 (u2 (u2 (u2 (u2 (u2 s2))))))))))) (al (u2 s2)))) <|
   .br (fun a10=>
    have c1:=AQ (9);
    .rt [24,44,92,123] [] [(62,hK c1 [] [])] [] [0,1,2,3,4,5] [] (aj (aj a10 (al (aj (ak (al (c1))) (al (k2 n11))))) (aj t3 (aj (al t6) t6))))
   (fun a10=>
    .el fun x70 a11=>
    have c1:=AQ (1);
    .rt [24,44,92,122] [(70,usA x70)] [(71,hK c1 [] [])] [] [0,1,2,3,4,5] [] (aj (aj a10 (aj (u2 (u2 (u2 (u2 (u2 (u2 (aj (k2 (aj a2 a3)) (u2 (al (ak (Af (f:=usA) a11))))))))))) (al (aj (ak (al (c1))) (al (k2 n11)))))) (aj t3 (aj (al t6) t6)))))))))) (by kernel_rfl)) h
def Kd(n:Aa)(cl:List Bool)(bw pe:List Int)(tk:List TsD)(us:List UsD)(c:CmD):Option (Empty⊕Ret):=gu (n.bs.length<=1000000) <|br (decide (Az n c.a<0)) (some (.inr (lgH cl bw pe tk us,AV.agg [iV 3,iV 0]))) (gu (0<=Az n c.a) <|gu (Az n c.a<iN cl.length) <|el (cl) (0+(Az n c.a).toNat) fun(x24:Bool)=>br x24 (some (.inr (lgH cl bw pe tk us,AV.agg [iV 12,iV 2]))) (gu (pe.length<=9223372036854775807) <|br (AR pe (Az n c.a)) (some (.inr (lgH cl bw pe tk us,AV.agg [iV 12,iV 1]))) (some (.inr (lgH cl bw pe tk us,AV.agg [iV 12,iV 0])))))
theorem sta_ct(n:Aa)(cl:List Bool)(bw pe:List Int)(tk:List TsD)(us:List UsD)(c:CmD)(r:Ret)(h:Ac emT (Kd n cl bw pe tk us c) r):CTX Vb 63 (lgH cl bw pe tk us) ([Ai n,.ptr 0 0 0,cmA c]) r.1 r.2:=
 CTX.mach (fn:=Tryz.f63) (c:=zB Tryz.f63) (S:=emS) (hd:=emH) Tryz.func63 (by kernel_rfl) (nL rfl) (nL rfl)
  (fun s o ho=>match s,ho with
   | x,_=>x.elim)
  (fun o ho=>Scr.ok (X:=Kd n cl bw pe tk us c) ho mix (
 .rn 0 [] [] [] [] (al (u2 (u2 t2))) <|
 .gu fun a0=>
 have c0:=Pp n (c.a) a0;
 .rn 1 [] [] [(11,hK c0 [] [])] [] (aj (u2 (u2 (u2 (aj (k2 (aj t9 (ak (al (c0))))) s2)))) (al (u2 (u2 s2)))) <|
 .br (fun a1=>
 have c1:=AQ (3);
 .rt [25] [] [(15,hK c1 [] [])] [] [0,1,2,3,4,5] [] (aj (aj a1 (al (aj (ak (al (c1))) (al (k2 n11))))) (aj t3 (aj (al t6) t6))))
 (fun a1=>
 .gu fun a2=>
 .gu fun a3=>
 .el fun x24 a4=>
 .rn 0 [24] [(24,bV x24)] [] [] (aj a1 (al (u2 (u2 (u2 (u2 (u2 (u2 (aj (k2 (aj a2 a3)) (aj (ak (Af (f:=bV) a4)) s2)))))))))) <|
 .br (fun a5=>
  .rt [33] [] [] [] [0,1,2,3,4,5] [] (aj (aj a5 (al (ak (al (k2 n11))))) (aj t3 (aj (al t6) t6))))
 (fun a5=>
  .gu fun a6=>
  have c1:=EB (pe) (Az n c.a) a6;
  .rn 0 [32] [] [(33,hK c1 [] [3])] [] (aj a5 (al (u2 (u2 (u2 (u2 (u2 (u2 (aj (k2 (aj (show pe.length=(U4 iv pe).length by simp) (ak (aj (c1) (show ∀(blk:Blk),blk∈[]->A5 blk from(by intro _ h;cases h)))))) s2))))))))) <|
  .br (fun a7=>
  .rt [53] [] [] [] [0,1,2,3,4,5] [] (aj (aj a7 (al (ak (al (k2 n11))))) (aj t3 (aj (al t6) t6))))
  (fun a7=>
  have c2:=AQ (12);
  .rt [52] [] [(35,hK c2 [] [])] [] [0,1,2,3,4,5] [] (aj (aj a7 (al (aj (ak (al (c2))) (al (k2 n11))))) (aj t3 (aj (al t6) t6))))))) (by kernel_rfl)) h
def KZ(n:Aa)(cl:List Bool)(bw pe:List Int)(tk:List TsD)(us:List UsD)(c:CmD):Option (Empty⊕Ret):=gu (n.ss.length<=1000000) <|br (decide (Aw n c.a<0)) (some (.inr (lgH cl bw pe tk us,AV.agg [iV 3,iV 0]))) (gu (0<=Aw n c.a) <|el (n.ss) ((Aw n c.a).toNat) fun(x23:Av)=>br (!x23.dep) (some (.inr (lgH cl bw pe tk us,AV.agg [iV 3,iV 0]))) (gu (RwV n) <|gu (Aq n) <|gu (us.length<=1000000) <|br (decide (flC n<=cnP us)) (some (.inr (lgH cl bw pe tk us,AV.agg [iV 7,iV 0]))) (br (iN us.length==8) (some (.inr (lgH cl bw pe tk us,AV.agg [iV 7,iV 0]))) (gu ((Aj.mk cl bw pe).cl.length<=1000000) <|gu ((Aj.mk cl bw pe).pe.length<=1000000) <|gu (∀(b:Int),b∈(Aj.mk cl bw pe).pe->0<=b/\b<iN (Aj.mk cl bw pe).cl.length) <|gu (cl.length=(boL cl).length) <|gu (∀(blk:Blk),blk∈[bK (boL (AD (Aj.mk cl bw pe))) 1]->A5 blk) <|gu (∀(blk:Blk),blk∈[bK (U4 iV (hoL us)) 1]->A5 blk) <|gu ((AD (Aj.mk cl bw pe)).length=Al n) <|gu (0<=Aw n c.a/\Aw n c.a<iN n.ss.length) <|gu ((hoL us).length<=1000) <|gu ((AD (Aj.mk cl bw pe)).length=(boL (AD (Aj.mk cl bw pe))).length) <|br (plZ n (AD (Aj.mk cl bw pe)) (hoL us) (Aw n c.a)==0) (some (.inr (lgH cl bw pe tk us,AV.agg [iV 8,iV 0]))) (gu ((U4 usA us).length+[AV.agg [iV 0,bV false,iV (Aw n c.a),iV 0,iV 0,uV 0,bV false,bV false,iV 0,iV 0,Va [],iV 0,iV 0]].length<=9223372036854775807) <|gu (((U4 usA us).length+[AV.agg [iV 0,bV false,iV (Aw n c.a),iV 0,iV 0,uV 0,bV false,bV false,iV 0,iV 0,Va [],iV 0,iV 0]].length) * 112<=140737488355328) <|some (.inr ([some (Blk.mk [AV.agg [AV.sl 1 0 cl.length,AV.sl 2 0 bw.length,AV.sl 3 0 pe.length,AV.sl 4 0 tk.length,AV.sl 5 0 ((U4 usA us).length+[AV.agg [iV 0,bV false,iV (Aw n c.a),iV 0,iV 0,uV 0,bV false,bV false,iV 0,iV 0,Va [],iV 0,iV 0]].length)]] 5 false true none),some (bK (boL cl) 1),some (bK (U4 iV bw) 1),some (bK (U4 iV pe) 1),some (bK (U4 tsA tk) 5),some (bK (U4 usA us++[AV.agg [iV 0,bV false,iV (Aw n c.a),iV 0,iV 0,uV 0,bV false,bV false,iV 0,iV 0,Va [],iV 0,iV 0]]) 13)],AV.agg [iV 1,iV (i64.wrap (iN ((U4 usA us).length+[AV.agg [iV 0,bV false,iV (Aw n c.a),iV 0,iV 0,uV 0,bV false,bV false,iV 0,iV 0,Va [],iV 0,iV 0]].length)-1))])))))))
theorem ad2_ct(n:Aa)(cl:List Bool)(bw pe:List Int)(tk:List TsD)(us:List UsD)(c:CmD)(r:Ret)(h:Ac emT (KZ n cl bw pe tk us c) r):CTX Vb 61 (lgH cl bw pe tk us) ([Ai n,.ptr 0 0 0,cmA c]) r.1 r.2:=
 CTX.mach (fn:=Tryz.f61) (c:=zB Tryz.f61) (S:=emS) (hd:=emH) Tryz.func61 (by kernel_rfl) (nL rfl) (nL rfl)
  (fun s o ho=>match s,ho with
   | x,_=>x.elim)
  (fun o ho=>Scr.ok (X:=KZ n cl bw pe tk us c) ho mix (
 .rn 0 [] [] [] [] (al (u2 (u2 t2))) <|
 .gu fun a0=>
 have c0:=K5 n (c.a) a0;
 .rn 0 [] [] [(16,hK c0 [] [])] [] (al (u2 (u2 (u2 (aj (k2 (aj t9 (ak (al (c0))))) s2))))) <|
 .br (fun a1=>
 have c1:=AQ (3);
 .rt [39] [] [(28,hK c1 [] [])] [] [0,1,2,3,4,5] [] (aj (aj (u2 (u2 (u2 (aj a1 (aj a1 (aj a1 (aj a1 (aj a1 (aj a1 (aj a1 (al (aj a1 t2)))))))))))) (ak (al (aj (ak (al (c1))) (al (k2 n11)))))) (aj t3 (aj (al t6) t6))))
 (fun a1=>
 .gu fun a2=>
 .el fun x23 a3=>
 .rn 0 [38] [(23,sA x23)] [] [] (al (u2 (u2 (u2 (ag a1 (ag a1 (ag a1 (aj (aj a1 (k2 (aj a2 (Af (f:=sA) a3)))) (ag a1 (ag a1 (ag a1 (al (aj a1 t2))))))))))))) <|
 .br (fun a4=>
  have c1:=AQ (3);
  .rt [38,55] [] [(28,hK c1 [] [])] [] [0,1,2,3,4,5] [] (aj (aj a4 (al (aj (ak (al (c1))) (al (k2 n11))))) (aj t3 (aj (al t6) t6))))
 (fun a4=>
  .gu fun a5=>
  .gu fun a6=>
  have c1:=fln_c a5 a6;
  .rn 0 [38,54] [] [(31,hK c1 [] [])] [] (aj a4 (al (u2 (aj (ak (aj t9 (al (c1)))) (u2 (u2 (u2 (ak (aj (k2 n11) s2))))))))) <|
  .gu fun a7=>
  have c2:=JQ (us) a7;
  .rn 0 [38] [] [(39,hK c2 [] [5])] [] (al (u2 (u2 (u2 (u2 (aj (ak (aj (show us.length=(U4 usA us).length by simp) (aj (c2) (show ∀(blk:Blk),blk∈[]->A5 blk from(by intro _ h;cases h))))) (u2 (u2 (u2 (u2 (u2 (u2 s2)))))))))))) <|
  .br (fun a8=>
  have c3:=AQ (7);
  .rt [38,95] [] [(55,hK c3 [] [])] [] [0,1,2,3,4,5] [] (aj (aj (u2 (u2 (u2 (aj t3 (u2 (aj a8 (aj a8 (aj a8 (aj a8 (aj a8 (aj a8 (al (aj a8 t2))))))))))))) (ak (al (aj (ak (al (c3))) (al (k2 n11)))))) (aj t3 (aj (al t6) t6))))
  (fun a8=>
  .rn 0 [38,94] [] [] [] (al (u2 (u2 (u2 (aj t3 (u2 (ag a8 (ag a8 (ag a8 (ag a8 (ag a8 (ag a8 (al (aj a8 t2)))))))))))))) <|
  .br (fun a9=>
   have c3:=AQ (7);
   .rt [38,94,109] [] [(55,hK c3 [] [])] [] [0,1,2,3,4,5] [] (aj (aj a9 (al (aj (ak (al (c3))) (al (k2 n11))))) (aj t3 (aj (al t6) t6))))
  (fun a9=>
   .gu fun a10=>
   .gu fun a11=>
   .gu fun a12=>
   .gu fun a13=>
   .gu fun a14=>
   .gu fun a15=>
   .gu fun a16=>
   .gu fun a17=>
   .gu fun a18=>
   .gu fun a19=>
   have c3:=NA (Aj.mk cl bw pe) a10 a11 a12;
   have c4:=hoK_c (us) a7;
   have c5:=R5 n (AD (Aj.mk cl bw pe)) (hoL us) (Aw n c.a) a6 a16 a17 a18;
   .rn 0 [38,94,108] [] [(61,hK c3 [] [1,2,3]),(66,hK c4 [] [5]),(68,hK c5 [] [10,11])] [] (aj a9 (al (u2 (u2 (u2 (u2 (u2 (aj (ak (aj (aj a13 (aj (show bw.length=(U4 iv bw).length by simp) (al (show pe.length=(U4 iv pe).length by simp)))) (aj (c3) a14))) (u2 (u2 (u2 (u2 (aj (ak (aj (show us.length=(U4 usA us).length by simp) (aj (c4) a15))) (u2 (aj (ak (k3 (aj t9 (aj a19 (aj (show(hoL us).length=(U4 iv (hoL us)).length by simp) (ak (aj (c5) (show ∀(blk:Blk),blk∈[]->A5 blk from(by intro _ h;cases h))))))))) s2))))))))))))))) <|
   .br (fun a20=>
   have c6:=AQ (8);
   .rt [38,94,139] [] [(70,hK c6 [] [])] [] [0,1,2,3,4,5] [] (aj (aj a20 (al (aj (ak (al (c6))) (al (k2 n11))))) (aj t3 (aj (al t6) t6))))
   (fun a20=>
   .gu fun a21=>
   .gu fun a22=>
   .rt [38,94,138] [(78,AV.tup [])] [] [] [0,1,2,3,4,13] [] (aj (aj a20 (aj (u2 (u2 (u2 (u2 (u2 (u2 (u2 (u2 (aj (k2 (aj (show(U4 usA us).length=us.length by simp) (aj (aj (show nat_lit 13=nat_lit 13 from rfl) (show 1<=[AV.agg [iv 0,bV false,iv (Aw n c.a),iv 0,iv 0,uV 0,bV false,bV false,iv 0,iv 0,Va [],iv 0,iv 0]].length by simp)) (aj a21 a22)))) (u2 (u2 (al t3)))))))))))) (al (u2 (u2 (u2 (u2 (u2 (u2 (u2 (al (k2 n11)))))))))))) (aj t3 (aj (al t6) t6))))))))) (by kernel_rfl)) h
theorem rpV_set{c i:Nat}(h:i<c):(rpV c i).set (0+i) (-1)=rpV c (i+1):=by
 obtain⟨d,hd⟩:∃d,c-i=d+1:=⟨c-i-1,by omega⟩;have hd2:c-(i+1)=d:=by omega
 unfold rpV;rw[hd,hd2,Uu,List.replicate_succ,List.set_append_right _ _ (by simp)];simp only[Uz,TZ,List.set_cons_zero];rw[List.replicate_succ',List.append_assoc];rfl
theorem rpV_0(c:Nat):rpV c 0=List.replicate c 0:=by unfold rpV;simp
theorem rpV_c(c:Nat):rpV c c=List.replicate c (-1):=by unfold rpV;simp
theorem r20n_c{n:Aa}(hrw:RwV n):CT Vb 53 [] [Ai n] [] (.tup [sgA (nsS n),.int .i64 (nsE n)]):=by
 have h:=r20n_ct n;unfold MP at h;unfold nsS nsE;cases hv:A8 n with
 | false=>rw[hv] at h;exact CT.w2 (h ([],_) (.val (by rw[Ab hrw];rfl)))
 | true=>
  have hvn:=BD.1 hv;have h48:=IM hvn;rw[hv] at h;have k:=CT.w2 (h ([],.tup [.agg [.lst (List.replicate (Al n) (AV.bool false)),.lst (U4 (AV.int .i64) (List.replicate (Al n) (-1))),.nils],.int .i64 0]) (by
   rw[Ab hrw,Ad (by rfl),Ab hvn,Ab (by simp only[iN];omega),Ab (by simp only[iN];omega),Ab (by simp only[iN];omega)];rw[show (List.replicate (iN (Al n)).toNat (0:Int))=rpV (Al n) 0 from(rpV_0 _).symm];refine Bm (fun i=>FM.l0 (i:Int) (rpV (Al n) i)) (Al n) (fun i hi hx=>?_) ?_
   .refine .to (show HH n i (rpV (Al n) i)=_ from ?_) hx;unfold HH;rw[Ag (AB (by simp only[iN,IX (Nat.le_of_lt hi)];omega)),Ab (by omega),Ab (by simp only[iN,IX (Nat.le_of_lt hi)];omega),Ab (show Nat.le _ _ from(by rw[Ui,IX (Nat.le_of_lt hi)];show 0+(i:Int).toNat+1<=_;omega)),Uo,rpV_set hi,zW i (by omega)]
   .refine .to (show HH n (Al n:Nat) (rpV (Al n) (Al n))=_ from ?_) (.ret _);unfold HH;rw[Ad (AA (by simp only[iN,IX (Uq _)];omega)),rpV_c];rfl))
  rw[RV] at k;exact k
structure Dl(l:List Int)(w:Int)(v:List Int)(i j:Nat):Prop where
 len:v.length=l.length
 ij:i<=j
 jl:j<=l.length
 kep:v.take i=wo (l.take j) w
 rst:v.drop j=l.drop j
theorem wo_none{l:List Int}{w:Int}(h:w∉l):wo l w=l:=by unfold wo;exact List.filter_eq_self.2 fun x hx=>UZ.2 fun e=>h (e ▸ hx)
theorem PM{v l:List Int}{j:Nat}(h:v.drop j=l.drop j):v.getD j 0=l.getD j 0/\v.drop (j+1)=l.drop (j+1):=by
 constructor
 .have:=congrArg (fun x=>x.getD 0 0) h;simpa [Ug,T2] using this
 .have:=congrArg (List.drop 1) h
  rwa [T1,T1] at this
theorem Dl.skip{l:List Int}{w:Int}{v:List Int}{i j:Nat}(h:Dl l w v i j)(hj:j<l.length)(he:l.getD j 0=w):Dl l w v i (j+1):=by refine⟨h.len,Nat.le_succ_of_le h.ij,hj,?_,(PM h.rst).2⟩;rw[ON hj,Ue (by rw[he];simp),List.append_nil];exact h.kep
theorem Dl.keep{l:List Int}{w:Int}{v:List Int}{i j:Nat}(h:Dl l w v i j)(hj:j<l.length)(he:l.getD j 0≠w):Dl l w (v.set (0+i) (l.getD j 0)) (i+1) (j+1):=by
 have hij:=h.ij;have hl:=h.len;refine⟨by rw[UL];exact hl,by omega,hj,?_,?_⟩
 .rw[ON hj,Ud (UZ.2 he),<-h.kep,Uu,List.take_add_one,List.take_set_of_le (Uq _),U1,Ud rfl,Ud (by omega)];rfl
 .rw[Uu,List.drop_set,Ud (by omega)];exact(PM h.rst).2
theorem F8{α:Type}{l:List α}{i j:Nat}{v d:α}:(l.set i v).getD j d=if i=j/\j<l.length then v else l.getD j d:=by
 rw[Ug,U1,Ug];by_cases h:i=j
 .subst h;by_cases hl:i<l.length
  .rw[Ud rfl,Ud hl,Ud ⟨rfl,hl⟩];rfl
  .rw[Ud rfl,Ue hl,Ue (fun e=>hl e.2),UB (by omega)]
 .rw[Ue h,Ue (fun e=>h e.1)]
theorem getR{α:Type}{n i:Nat}{v d:α}(h:i<n):(List.replicate n v).getD i d=v:=by rw[Ug,UD,Ud h];rfl
def AN(n:Aa):Aj:=⟨List.replicate (Al n) false,List.replicate (Al n) (-1),[]⟩
def anS(s:Aj)(x:Int):Aj:=⟨s.cl,s.bw,s.pe++[x]⟩
def clS(s:Aj)(c r:Int):Aj:=⟨s.cl.set c.toNat true,if s.cl.getD c.toNat true=true then s.bw else s.bw.set c.toNat r,wo s.pe c⟩
def opS(s:Aj)(c:Int):Aj:=⟨s.cl.set c.toNat false,s.bw.set c.toNat (-1),wo s.pe c⟩
theorem Qo{l:List Int}{x y:Int}:y∈wo l x↔y∈l/\y≠x:=by unfold wo;rw[List.mem_filter,UZ]
theorem newS_ok(n:Aa):BB n (AN n):=by
 refine⟨Uz ..,Uz ..,fun i hi=>?_,fun b hb=>(by cases hb),List.Pairwise.nil⟩;have hi:i<Al n:=by have:(AN n).bw.length=Al n:=Uz ..;omega
 show -1<=(List.replicate (Al n) (-1:Int)).getD i 0/\_;rw[show (AN n).bw=List.replicate (Al n) (-1:Int) from rfl,getR hi];omega
theorem Qk{n:Aa}{s:Aj}{x:Int}(h:BB n s)(hx:0<=x/\x<(n.bs.length:Int))(hc:s.cl.getD x.toNat true=false)(hp:x∉s.pe):BB n (anS s x):=by
 refine⟨h.lc,h.lb,h.bw,fun b hb=>?_,R3 h.nd hp⟩;rcases UH.1 hb with hb | hb
 .exact h.pb b hb
 .rw[T7.1 hb];exact⟨hx.1,hx.2,hc⟩
theorem wo_nd{l:List Int}(x:Int)(h:l.Nodup):(wo l x).Nodup:=h.sublist List.filter_sublist
theorem clS_ok{n:Aa}{s:Aj}{c r:Int}(h:BB n s)(hc:0<=c/\c<(Al n:Int))(hr : -1<=r/\r<8):BB n (clS s c r):=by
 have lc:=h.lc;have lb:=h.lb;refine⟨by show(s.cl.set _ _).length=_;rw[UL,lc],by show(if _ then s.bw else s.bw.set _ _).length=_;split<;>simp[lb],fun i hi=>?_,fun b hb=>?_,wo_nd c h.nd⟩
 .show -1<=(if _ then s.bw else s.bw.set _ _).getD i 0/\(if _ then s.bw else s.bw.set _ _).getD i 0<8/\(0<=(if _ then s.bw else s.bw.set _ _).getD i 0->(s.cl.set c.toNat true).getD i true=true);have hi:i<s.bw.length:=by have:(clS s c r).bw.length=s.bw.length:=(by show(if _ then s.bw else s.bw.set _ _).length=_;split<;>simp);omega
  have hb:=h.bw i hi;have e:(s.cl.set c.toNat true).getD i true=if c.toNat=i/\i<s.cl.length then true else s.cl.getD i true:=F8
  rw[e];split
  .refine⟨hb.1,hb.2.1,fun h0=>?_⟩;split
   .rfl
   .exact hb.2.2 h0
  .rw[F8];split
   .rename_i h1;exact⟨hr.1,hr.2,fun _=>by rw[Ud ⟨h1.1,by omega⟩]⟩
   .refine⟨hb.1,hb.2.1,fun h0=>?_⟩;split
    .rfl
    .exact hb.2.2 h0
 .obtain⟨h1,h2⟩:=Qo.1 hb;have:=h.pb b h1;refine⟨this.1,this.2.1,?_⟩;show(s.cl.set c.toNat true).getD b.toNat true=false;rw[F8,Ue (by omega)];exact this.2.2
theorem opS_ok{n:Aa}{s:Aj}{c:Int}(h:BB n s)(hc:0<=c/\c<(Al n:Int)):BB n (opS s c):=by
 have lc:=h.lc;have lb:=h.lb;refine⟨by show(s.cl.set _ _).length=_;rw[UL,lc],by show(s.bw.set _ _).length=_;rw[UL,lb],fun i hi=>?_,fun b hb=>?_,wo_nd c h.nd⟩
 .show -1<=(s.bw.set _ _).getD i 0/\(s.bw.set _ _).getD i 0<8/\(0<=(s.bw.set _ _).getD i 0->(s.cl.set c.toNat false).getD i true=true);have hi:i<s.bw.length:=by have:(opS s c).bw.length=s.bw.length:=UL ..;omega
  have hb:=h.bw i hi;rw[F8,F8];split
  .exact⟨by omega,by omega,fun h=>by omega⟩
  .rename_i h1;refine⟨hb.1,hb.2.1,fun h0=>?_⟩;rw[Ue (by omega)];exact hb.2.2 h0
 .obtain⟨h1,h2⟩:=Qo.1 hb;have:=h.pb b h1;refine⟨this.1,this.2.1,?_⟩;show(s.cl.set c.toNat false).getD b.toNat true=false;rw[F8,Ue (by omega)];exact this.2.2
def On(l:List Bool)(q w:List Int):Option (Empty⊕Ret):=gu (l.length<=1000000) <|gu (q.length<=1000000) <|gu (w.length<=1000000) <|some (.inr ([some (bK (boL l) 1),some (bK (U4 iV q) 1),some (bK (U4 iV w) 1)],AV.agg [AV.sl 0 0 (boL l).length,AV.sl 1 0 q.length,AV.sl 2 0 w.length]))
theorem cln_ct(l:List Bool)(q w:List Int)(r:Ret)(h:Ac emT (On l q w) r):CT Vb 133 ([]) ([sgA ⟨l,q,w⟩]) r.1 r.2:=
 CT.mach (fn:=Tryz.f133) (c:=zB Tryz.f133) (S:=emS) (hd:=emH) Tryz.func133 (by kernel_rfl) (nL rfl)
  (fun s o ho=>match s,ho with
   | x,_=>x.elim)
  (fun o ho=>Scr.ok (X:=On l q w) ho mix (
 .rn 0 [] [] [] [] (al (u2 t2)) <|
 .gu fun a0=>
 .gu fun a1=>
 .gu fun a2=>
 have c0:=O3 l a0;
 have c1:=Pg q a1;
 have c2:=Pg w a2;
 .rt [] [] [(5,hK c0 [] []),(8,hK c1 [] []),(11,hK c2 [] [])] [] [2,3,4] [] (aj (al (u2 (u2 (aj (k2 (al (c0))) (u2 (u2 (aj (k2 (al (c1))) (u2 (u2 (aj (k2 (al (c2))) (aj t4 (al (k2 n11))))))))))))) (aj t4 t4))) (by kernel_rfl)) h
def MU(n:Aa)(q:Aj)(c:Int):Option (Empty⊕Ret):=gu (RwV n) <|br (!BC n q) (some (.inr ([],iV 20))) (br (decide (c<0)) (some (.inr ([],iV 19))) (br (decide (iN (boL q.cl).length<=c)) (some (.inr ([],iV 19))) (some (.inr ([],iV 0)))))
theorem sch_ct(n:Aa)(q:Aj)(c:Int)(r:Ret)(h:Ac emT (MU n q c) r):CT Vb 132 ([]) ([Ai n,sgA q,.int .i64 c]) r.1 r.2:=
 CT.mach (fn:=Tryz.f132) (c:=zB Tryz.f132) (S:=emS) (hd:=emH) Tryz.func132 (by kernel_rfl) (nL rfl)
  (fun s o ho=>match s,ho with
   | x,_=>x.elim)
  (fun o ho=>Scr.ok (X:=MU n q c) ho mix (
 .rn 0 [] [] [] [] (al (u2 (u2 t2))) <|
 .gu fun a0=>
 have c0:=I7 (q.cl) (q.bw) (q.pe) a0;
 .rn 0 [] [] [(10,hK c0 [] [])] [] (al (u2 (u2 (aj (k2 (aj t9 (aj t4 (al (c0))))) (u2 s2))))) <|
 .br (fun a1=>
 .rt [15] [] [] [] [] [] (aj (aj a1 s2) t2))
 (fun a1=>
 .br (fun a2=>
  .rt [14,31] [] [] [] [] [] (aj (aj a1 (aj (u2 (u2 (u2 (aj a2 (aj a2 (aj a2 (aj a2 (aj a2 (ag a2 s2))))))))) (ak s2))) t2))
 (fun a2=>
  .rn 0 [14,30] [] [] [] (aj a1 (al (u2 (u2 (u2 (ag a2 (ag a2 (ag a2 (ag a2 (aj (aj a2 t3) (ag a2 s2))))))))))) <|
  .br (fun a3=>
  .rt [30,25] [] [] [] [] [] (aj (aj a3 s2) t2))
  (fun a3=>
  .rt [30,24] [] [] [] [] [] (aj (aj a3 s2) t2))))) (by kernel_rfl)) h
inductive E1 where | l0 (v0:Int) (v1:List Bool)
def MB(n:Aa)(q:Aj):E1->St | .l0 v0 v1=>St.mk 28 [(6,AV.sl 0 0 (boL q.cl).length),(17,Va (U4 iv q.pe)),(18,iv (iN (U4 iv q.pe).length)),(19,iv v0)] [some (bK (U4 bV v1) 1)]
def Pw(n:Aa)(q:Aj):Option (E1⊕Ret):=gu (RwV n) <|br (!BC n q) (some (.inr ([],AV.tup [AV.nils,iV 20]))) (gu (q.cl.length<=1000000) <|some (.inl (.l0 ((0:Int)) (q.cl))))
def F9(n:Aa)(q:Aj)(v0:Int)(v1:List Bool):Option (E1⊕Ret):=br (decide (v0<iN (U4 iV q.pe).length)) (gu (0<=v0) <|el (q.pe) (v0.toNat) fun(x21:Int)=>gu (0<=x21) <|gu (x21<iN (boL q.cl).length) <|gu ((0+x21.toNat).succ.le (U4 bV v1).length) <|some (.inl (.l0 (i64.wrap (v0+1)) (v1.set (0+x21.toNat) true)))) (gu ((boL q.cl).length=(U4 bV v1).length) <|some (.inr ([],AV.tup [Va (U4 bV v1),iV 0])))
def sshStep(n:Aa)(q:Aj):E1->Option (E1⊕Ret) | .l0 v0 v1=>F9 n q v0 v1
theorem ssh_ct(n:Aa)(q:Aj)(r:Ret)(h:Ac (sshStep n q) (Pw n q) r):CT Vb 14 ([]) ([Ai n,sgA q]) r.1 r.2:=
 CT.mach (fn:=Tryz.f14) (c:=zB Tryz.f14) (S:=(MB n q)) (hd:=E1.ctorIdx) Tryz.func14 (by kernel_rfl) (nL rfl)
  (fun s o ho=>match s,ho with
 | .l0 v0 v1,ho=>Scr.ok (X:=F9 n q v0 v1) ho mix (
 .rn 0 [] [] [] [] (al (al t3)) <|
 .br (fun a0=>
 .gu fun a1=>
 .el fun x21 a2=>
 .rn 0 [41] [(21,iv x21)] [] [] (aj a0 (al (aj (k2 (aj a1 (Af (f:=iv) a2))) (u2 s2)))) <|
 .gu fun a3=>
 .gu fun a4=>
 .gu fun a5=>
 .lq [] [] [] [] [] [0] [6,17,18,19] (up [] [(0,(U4 bV v1).set (0+x21.toNat) (bV true))] (MB n q (.l0 (i64.wrap (v0+1)) (v1.set (0+x21.toNat) true)))) (aj (aj (u2 (u2 (aj (k2 (aj a3 a4)) (al (ak a5))))) (al (u2 s2))) t6) (by simp[up,upF,upV,upH,upB,MB,gL,boL,lI,sA,bA]))
 (fun a0=>
 .rn 0 [40] [] [] [] (aj a0 (al (u2 (u2 t2)))) <|
 .gu fun a1=>
 .rt [] [] [] [] [] [0] (ak (al (aj a1 t2))))) (by kernel_rfl)
  )
  (fun o ho=>Scr.ok (X:=Pw n q) ho mix (
 .rn 0 [] [] [] [] (al (u2 (u2 t3))) <|
 .gu fun a0=>
 have c0:=I7 (q.cl) (q.bw) (q.pe) a0;
 .rn 0 [] [] [(11,hK c0 [] [])] [] (al (u2 (u2 (aj (k2 (aj t9 (aj t4 (al (c0))))) s2)))) <|
 .br (fun a1=>
 .rt [25] [] [] [] [] [] (aj (aj a1 (al t3)) (al t3)))
 (fun a1=>
 .gu fun a2=>
 have c1:=O3 (q.cl) a2;
 .lp [24] [] [(15,hK c1 [] [])] [] [] [2] [6,17,18,19] (aj (aj a1 (aj (u2 (u2 (aj (k2 (al (c1))) s2))) (al (u2 (u2 (u2 t2)))))) t6))) (by kernel_rfl)) h
def MM(q:Aj)(c:Int):Option (Empty⊕Ret):=gu (q.cl.length<=1000000) <|gu (q.bw.length<=1000000) <|gu (q.pe.length<=1000000) <|gu (0<=c) <|gu (c<iN (boL q.cl).length) <|gu ((0+c.toNat).succ.le (boL q.cl).length) <|gu (c<iN q.bw.length) <|gu ((0+c.toNat).succ.le (U4 iV q.bw).length) <|some (.inr ([],AV.agg [Va ((boL q.cl).set (0+c.toNat) (bV false)),Va ((U4 iV q.bw).set (0+c.toNat) (iV (-1))),Va (U4 iV (wo q.pe c))]))
theorem rops_ct(q:Aj)(c:Int)(r:Ret)(h:Ac emT (MM q c) r):CT Vb 113 ([]) ([sgA q,.int .i64 c]) r.1 r.2:=
 CT.mach (fn:=Tryz.f113) (c:=zB Tryz.f113) (S:=emS) (hd:=emH) Tryz.func113 (by kernel_rfl) (nL rfl)
  (fun s o ho=>match s,ho with
   | x,_=>x.elim)
  (fun o ho=>Scr.ok (X:=MM q c) ho mix (
 .rn 0 [] [] [] [] (al (u2 t2)) <|
 .gu fun a0=>
 .gu fun a1=>
 .gu fun a2=>
 have c0:=MV (q.cl) (q.bw) (q.pe) c a0 a1 a2;
 .rn 0 [] [] [(7,hK c0 [] [])] [] (al (u2 (u2 (aj (k2 (aj t4 (ak (al (c0))))) (al (k2 (show Nat.le 1 [AV.agg [Va (boL q.cl),Va (U4 iv q.bw),Va (U4 iv q.pe)]].length from(nL rfl)))))))) <|
 .gu fun a3=>
 .gu fun a4=>
 .gu fun a5=>
 .gu fun a6=>
 .gu fun a7=>
 .rt [] [] [] [] [] [2,3,4] (aj (aj (u2 (u2 (u2 (u2 (u2 (u2 (aj (k2 (aj a3 a4)) (aj (ak a5) (aj (k2 (aj a3 a6)) (al (ak a7))))))))))) (al (u2 (al (k2 n11))))) (al (aj (show(boL q.cl).length=((boL q.cl).set (0+c.toNat) (bV false)).length by simp) (aj (show q.bw.length=((U4 iv q.bw).set (0+c.toNat) (iv (-1))).length by simp) (al (show(wo q.pe c).length=(U4 iv (wo q.pe c)).length by simp))))))) (by kernel_rfl)) h
def shE(n:Aa)(s:Aj):Int:=if BC n s=true then 0 else 20
def shO(n:Aa)(s:Aj):List Bool:=if BC n s=true then AD s else []
theorem MH{n:Aa}{s:Aj}(h:BC n s=true):Aq n/\BB n s/\s.cl.length<=48/\s.bw.length<=48/\s.pe.length<=48/\n.bs.length<=s.cl.length/\∀b∈s.pe,0<=b/\b<(s.cl.length:Int):=by obtain⟨hv,h⟩:=Qs.1 h;have hc:=IM hv;have lc:=h.lc;have lb:=h.lb;have pl:=h.pl;exact⟨hv,h,by omega,by omega,by omega,by omega,fun b hb=>by have:=h.pb b hb;omega⟩
theorem cln_c(cl:List Bool)(bw pe:List Int)(h1:cl.length<=1000000)(h2:bw.length<=1000000)(h3:pe.length<=1000000):
  CT Vb 133 [] [sgA ⟨cl,bw,pe⟩] [some (Blk.mk (boL cl) 1 true true none),some (Blk.mk (bw.map (AV.int .i64)) 1 true true none),some (Blk.mk (pe.map (AV.int .i64)) 1 true true none)] (.agg [.sl 0 0 (boL cl).length,.sl 1 0 bw.length,.sl 2 0 pe.length]):=by
 refine cln_ct cl bw pe ([_,_,_],_) (.val ?_);unfold On;rw[Ab h1,Ab h2,Ab h3]
def scE(n:Aa)(s:Aj)(c:Int):Int:=if BC n s=true then (if c<0\/(s.cl.length:Int)<=c then 19 else 0) else 20
theorem sch_c{n:Aa}(cl:List Bool)(bw pe:List Int)(c:Int)(hrw:RwV n):CT Vb 132 [] [Ai n,sgA ⟨cl,bw,pe⟩,.int .i64 c] [] (.int .i64 (scE n ⟨cl,bw,pe⟩ c)):=by
 refine sch_ct n ⟨cl,bw,pe⟩ c ([],_) (.val ?_);unfold MU scE;simp only;rw[Ab hrw];cases h:BC n ⟨cl,bw,pe⟩ with
 | false=>rfl
 | true=>
  rw[Ad (by rfl),Ud rfl];by_cases h0:c<0
  .rw[Ag (AB h0),Ud (.inl h0)]
  by_cases h1:(cl.length:Int)<=c
  .rw[Ad (AA h0),Ag (AB (by rw[A9];exact h1)),Ud (.inr h1)]
  .rw[Ad (AA h0),Ad (AA (by rw[A9];exact h1)),Ue (by omega)]
theorem ssh_c{n:Aa}(cl:List Bool)(bw pe:List Int)(hrw:RwV n):CT Vb 14 [] [Ai n,sgA ⟨cl,bw,pe⟩] [] (.tup [.lst (boL (shO n ⟨cl,bw,pe⟩)),.int .i64 (shE n ⟨cl,bw,pe⟩)]):=by
 generalize hs:(⟨cl,bw,pe⟩:Aj)=s;have k:=ssh_ct n s;unfold Pw at k;unfold shO shE;cases h:BC n s with
 | false=>rw[h] at k;exact CT.w2 (k ([],_) (.val (by rw[Ab hrw];rfl)))
 | true=>
  obtain⟨hv,hS,l1,l2,l3,l4,l5⟩:=MH h;rw[h] at k;refine k ([],_) ?_;rw[Ab hrw,Ad (by rfl),Ab (by omega)];refine Oi (L:=fun i b=>E1.l0 (i:Int) b) (f:=fun c b=>c.set b.toNat true) (l:=s.pe) s.cl (fun i x hx h=>?_) ?_
  .have hlen:=KC (s.pe.take i) s.cl;have h2:=l5 x (Uj hx);have hi:=(Uh.1 hx).1;have hL:=A9 s.cl;generalize (s.pe.take i).foldl (fun c b=>c.set b.toNat true) s.cl=c at *;refine .to (show F9 n s i c=_ from ?_) h;unfold F9;rw[AS hx,Ab h2.1,Ab (by simp only[iN];omega),Ab (show Nat.le _ _ from(by simp only[Ui];show 0+x.toNat+1<=_;omega)),zW i (by omega),Uu]
  .refine .to (show F9 n s s.pe.length (AD s)=_ from ?_) (.ret _);unfold F9;rw[AO,Ab (by rw[A9,Ui,DX])];rfl
def anE(n:Aa)(s:Aj)(x:Int):Int:=if BC n s=true then (if 0<=x/\x<(n.bs.length:Int) then (if (AD s).getD x.toNat true=true then 24 else 0) else 19) else 20
def anO(n:Aa)(s:Aj)(x:Int):Aj:=if anE n s x=0 then anS s x else ⟨[],[],[]⟩
theorem set_same{l:List Bool}{i:Nat}{v:Bool}(h:l.getD i true=v)(hi:i<l.length):l.set i v=l:=by
 apply List.ext_getElem?;intro j;rw[U1];split
 .rename_i e;subst e;rw[Uf hi];rw[Ug,Uf hi] at h;exact congrArg some h.symm
 .rfl
theorem rops_c(cl:List Bool)(bw pe:List Int)(c:Int)(h1:cl.length<=1000000)(h2:bw.length<=1000000)(h3:pe.length<=1000000)(hc:0<=c)(hc1:c<(cl.length:Int))(hc2:c<(bw.length:Int)):
  CT Vb 113 [] [sgA ⟨cl,bw,pe⟩,.int .i64 c] [] (sgA (opS ⟨cl,bw,pe⟩ c)):=by
 refine rops_ct ⟨cl,bw,pe⟩ c ([],_) (.val ?_);have hL:=A9 cl;unfold MM;simp only;rw[Ab h1,Ab h2,Ab h3,Ab hc,Ab (by simp only[iN];omega),Uu,Ab (show Nat.le _ _ from(show c.toNat+1<=_ by omega)),Ab hc2,Ab (show Nat.le _ _ from(by rw[Ui];show c.toNat+1<=_;omega))];unfold opS lI boL;simp only;rw[U0,U0]
structure LgD where
 cl:List Bool
 bw:List Int
 pe:List Int
 tk:List TsD
 us:List UsD
def lgA(x:LgD):AV:=.agg [.lst (boL x.cl),lI x.bw,lI x.pe,.lst (x.tk.map tsA),.lst (x.us.map usA)]
inductive Gf where | l0 (v0:Int) (v1:List UsD)
def Js(cl:List Bool)(bw pe:List Int)(tk:List TsD)(us:List UsD):Gf->St | .l0 v0 v1=>St.mk 38 [(1,AV.ptr 0 0 0),(2,AV.ptr 1 0 0),(3,AV.ptr 2 0 0),(4,iv v0)] [some (bK [AV.agg [Va (boL cl),Va (U4 iv bw),Va (U4 iv pe),Va (U4 tsA tk),Va (U4 usA us)]] 5),some (bK [AV.agg [AV.nils,AV.nils,AV.nils,AV.nils,AV.nils]] 5),some (Blk.mk [AV.agg [AV.sl 3 0 (boL cl).length,AV.sl 4 0 bw.length,AV.sl 5 0 (wo pe (-1)).length,AV.sl 6 0 tk.length,AV.sl 7 0 v1.length]] 5 false true none),some (bK (boL cl) 1),some (bK (U4 iv bw) 1),some (bK (U4 iv (wo pe (-1))) 1),some (bK (U4 tsA tk) 5),some (bK (U4 usA v1) 13)]
def Mo(cl:List Bool)(bw pe:List Int)(tk:List TsD)(us:List UsD):Option (Gf⊕Ret):=gu (cl.length<=1000000) <|gu (bw.length<=1000000) <|gu (pe.length<=1000000) <|gu (∀(e:AV),e∈U4 tsA tk->e.cells.length=5) <|gu ((U4 tsA tk).length<=9223372036854775807) <|gu ((U4 tsA tk).length * 40<=140737488355328) <|some (.inl (.l0 ((0:Int)) ([])))
def Gg(cl:List Bool)(bw pe:List Int)(tk:List TsD)(us:List UsD)(v0:Int)(v1:List UsD):Option (Gf⊕Ret):=br (decide (v0<iN (U4 usA us).length)) (gu (0<=v0) <|el (us) (v0.toNat) fun(x23:UsD)=>gu ((U4 usA v1).length+[AV.agg [iV x23.s,bV x23.lv,iV x23.hm,iV 0,iV 0,uV 0,bV false,bV false,iV 0,iV 0,Va [],iV 0,iV 0]].length<=9223372036854775807) <|gu (((U4 usA v1).length+[AV.agg [iV x23.s,bV x23.lv,iV x23.hm,iV 0,iV 0,uV 0,bV false,bV false,iV 0,iV 0,Va [],iV 0,iV 0]].length) * 112<=140737488355328) <|some (.inl (.l0 (i64.wrap (v0+1)) (v1++[x23])))) (some (.inr ([some (bK (boL cl) 1),some (bK (U4 iV bw) 1),some (bK (U4 iV (wo pe (-1))) 1),some (bK (U4 tsA tk) 5),some (bK (U4 usA v1) 13)],AV.agg [AV.sl 0 0 (boL cl).length,AV.sl 1 0 bw.length,AV.sl 2 0 (wo pe (-1)).length,AV.sl 3 0 tk.length,AV.sl 4 0 v1.length])))
def Rr(cl:List Bool)(bw pe:List Int)(tk:List TsD)(us:List UsD):Gf->Option (Gf⊕Ret) | .l0 v0 v1=>Gg cl bw pe tk us v0 v1
theorem cpy_ct(cl:List Bool)(bw pe:List Int)(tk:List TsD)(us:List UsD)(r:Ret)(h:Ac (Rr cl bw pe tk us) (Mo cl bw pe tk us) r):CT Vb 55 ([]) ([lgA ⟨cl,bw,pe,tk,us⟩]) r.1 r.2:=
 CT.mach (fn:=Tryz.f55) (c:=zB Tryz.f55) (S:=(Js cl bw pe tk us)) (hd:=Gf.ctorIdx) Tryz.func55 (by kernel_rfl) (nL rfl)
  (fun s o ho=>match s,ho with
 | .l0 v0 v1,ho=>Scr.ok (X:=Gg cl bw pe tk us v0 v1) ho mix (
 .rn 0 [] [] [] [] (al (u2 (u2 (u2 (u2 (al t3)))))) <|
 .br (fun a0=>
 .gu fun a1=>
 .el fun x23 a2=>
 .rn 0 [35] [(23,usA x23)] [] [] (aj a0 (al (u2 (u2 (u2 (aj (k2 (aj a1 (Af (f:=usA) a2))) (u2 (ak (al (k2 n11)))))))))) <|
 .gu fun a3=>
 .gu fun a4=>
 .lq [] [(34,AV.tup [])] [] [] [] [0,1,2,3,4,5,6,10] [1,2,3,4] (up [] [(2,[AV.agg [AV.sl 3 0 (boL cl).length,AV.sl 4 0 bw.length,AV.sl 5 0 (wo pe (-1)).length,AV.sl 6 0 tk.length,AV.sl 7 0 ((U4 usA v1).length+[AV.agg [iv x23.s,bV x23.lv,iv x23.hm,iv 0,iv 0,uV 0,bV false,bV false,iv 0,iv 0,Va [],iv 0,iv 0]].length)]]),(7,U4 usA v1++[AV.agg [iv x23.s,bV x23.lv,iv x23.hm,iv 0,iv 0,uV 0,bV false,bV false,iv 0,iv 0,Va [],iv 0,iv 0]])] (Js cl bw pe tk us (.l0 (i64.wrap (v0+1)) (v1++[x23])))) (aj (aj (u2 (u2 (u2 (u2 (u2 (u2 (u2 (u2 (aj t4 (u2 (aj (k2 (aj (show(U4 usA v1).length=v1.length by simp) (aj (aj (show nat_lit 13=nat_lit 13 from rfl) (show 1<=[AV.agg [iv x23.s,bV x23.lv,iv x23.hm,iv 0,iv 0,uV 0,bV false,bV false,iv 0,iv 0,Va [],iv 0,iv 0]].length by simp)) (aj a3 a4)))) (u2 (al t3))))))))))))) (al (u2 (u2 s2)))) (ak (k5 (aj (al t6) t6)))) (by simp[up,upF,upV,upH,upB,Js,gL,boL,lI,tsA,usA]))
 (fun a0=>
 .rt [34] [] [] [] [3,4,5,6,7] [] (aj (aj a0 (al (u2 (al (k2 n11))))) (aj t6 t6)))) (by kernel_rfl)
  )
  (fun o ho=>Scr.ok (X:=Mo cl bw pe tk us) ho mix (
 .rn 0 [] [] [] [] (al (u2 t2)) <|
 .gu fun a0=>
 .gu fun a1=>
 .gu fun a2=>
 .gu fun a3=>
 .gu fun a4=>
 .gu fun a5=>
 have c0:=MV (cl) (bw) (pe) (-1) a0 a1 a2;
 .lq [] [] [(8,hK c0 [] [])] [] [(5003,13)] [0,1,6,2,3,4,5,7] [1,2,3,4] (up [] [(2,[AV.agg [AV.sl 3 0 (boL cl).length,AV.sl 4 0 bw.length,AV.sl 5 0 (wo pe (-1)).length,AV.sl 6 0 (U4 tsA tk).length,AV.sl 7 0 0]])] (Js cl bw pe tk us (.l0 ((0:Int)) ([])))) (aj (aj (u2 (u2 (aj (ak (aj t4 (ak (al (c0))))) (u2 (u2 (aj (ak (aj a3 (aj a4 a5))) (aj t3 (ak (al (k2 n11)))))))))) s2) (ak (k5 (aj (al t6) t6)))) (by simp[up,upF,upV,upH,upB,Js,gL,boL,lI,tsA,usA])) (by kernel_rfl)) h
theorem _root_.Go.AX.CTO.ren{P:Program}{f:FuncId}{hin hout:List (Option Blk)}{args:List AV}{res:AV}{st1:St}(h:CTO P f hin args hout res)(hl:1<=hout.length)(hw:∀b,b<hout.length->∃blk,nth hout b=some blk/\blk.wr=true)
  (hr:Ren 1 ⟨1,[(0,res)],hout⟩ st1):CTO P f hin args st1.hp (AX.Au st1.fr 0):=by
 intro φ A w vs hA hh ho hlen hv;refine(h φ A w vs hA hh ho hlen hv).mono fun e w' ⟨v,φ',he,C⟩=>?_
 have hown:∀b r z,1<=b->φ' b=some (r,z)->AH A φ hin.length r\/w.heap.size<=r:=by
  intro b r z hb hφ;by_cases hb2:b<hout.length
  .obtain⟨blk,h1,h2⟩:=hw b hb2;rcases C.mutd r ⟨b,blk,z,h1,h2,hφ⟩ with ⟨b',blk',z',g1,g2,g3⟩ | h3
   .by_cases h0:b'=0
    .subst h0;obtain⟨blk0,k1,_⟩:=hw 0 (by omega);have:=C.heap.inj 0 b r z' z (by rw[k1];rfl) (by rw[h1];rfl) (by rw[C.par];exact g3) hφ;omega
    .refine .inl (.inr ⟨b',z',by omega,?_,g3⟩);exact Nat.lt_of_not_le fun hle=>by rw[ho b' hle] at g3;cases g3
   .exact .inr h3
  .rw[C.out b (by omega)] at hφ;cases hφ
 have hrel:Rel (AH A φ hin.length) w.heap.size 1 φ' ⟨1,[(0,res)],hout⟩ {tmps:=#[v],defers:=[]} w':=by
  refine⟨rfl,rfl,fun s=>?_,C.heap,C.out,C.keep.size,hown⟩;cases s with
  | zero=>exact C.val
  | succ s=>exact .imm _ _ (.unk _)
 obtain⟨φ2,r2,hm,tr⟩:=hr _ w.heap.size φ' _ w' hl hrel;refine⟨v,φ2,he,⟨(tr.par 0 (by omega)).trans C.par,C.keep,fun r hr2=>?_,r2.heap,r2.slot 0,r2.out⟩⟩;rcases tr.mutd r hr2 with h1 | h1
 .exact C.mutd r h1
 .exact .inr (UU C.keep.size h1)
def lgF(x:LgD):List (Option Blk):=[some (Blk.mk [.agg [.lst (boL x.cl),lI x.bw,lI x.pe,.lst (x.tk.map tsA),.lst (x.us.map usA)]] 5 true true none)]
def lgR(p:LgD×Int×Int):Ret:=(lgH p.1.cl p.1.bw p.1.pe p.1.tk p.1.us,.agg [.int .i64 p.2.1,.int .i64 p.2.2])
theorem frzL{f:FuncId}{hin:List (Option Blk)}{args:List AV}{x:LgD}{a b:Int}(h:CTX Vb f hin args (lgH x.cl x.bw x.pe x.tk x.us) (.agg [.int .i64 a,.int .i64 b])):CTX Vb f hin args (lgF x) (.agg [.int .i64 a,.int .i64 b]):=by
 refine⟨CTO.ren (st1:=⟨1,[(0,.agg [.int .i64 a,.int .i64 b])],lgF x⟩) h.ct (by show 1<=6;omega) (fun b hb=>?_) (Ren.of [0] [1,2,3,4,5] [0] (p:=_) rfl ?_ rfl rfl rfl)⟩
 .match b,hb with
  | 0,_=>exact⟨_,rfl,rfl⟩
  | 1,_=>exact⟨_,rfl,rfl⟩
  | 2,_=>exact⟨_,rfl,rfl⟩
  | 3,_=>exact⟨_,rfl,rfl⟩
  | 4,_=>exact⟨_,rfl,rfl⟩
  | 5,_=>exact⟨_,rfl,rfl⟩
  | b+6,h=>exact absurd h (by show ¬(b+6<6);omega)
 .simp[A9];exact⟨trivial,trivial,trivial⟩
theorem Lf(l:List Bool):∀(blk:Blk),blk∈[Blk.mk (boL l) 1 true true none]->A5 blk:=fun blk hb=>by rw[T7] at hb;subst hb;intro e he c hc;obtain⟨b,_,rfl⟩:=UI.1 he;rw[show (AV.bool b).cells=[.bool b] from rfl,T7] at hc;subst hc;rfl
theorem NV(l:List Int):∀(blk:Blk),blk∈[Blk.mk (l.map (AV.int .i64)) 1 true true none]->A5 blk:=fun blk hb=>by rw[T7] at hb;subst hb;intro e he c hc;obtain⟨b,_,rfl⟩:=UI.1 he;rw[show (AV.int .i64 b).cells=[.int .i64 b] from rfl,T7] at hc;subst hc;rfl
def stB(n:Aa)(p:Int):Prop:=0<=p/\∃s,n.ss[p.toNat]?=some s/\s.dep=false
def UvP(n:Aa)(u:UsD):Prop:=0<=u.s/\u.s<=3/\-2<=u.hm/\(0<=u.hm->dpB n u.hm=true)
structure LgV(n:Aa)(x:LgD):Prop where
 nv:Aq n
 rw:RwV n
 sg:BB n ⟨x.cl,x.bw,x.pe⟩
 tl:x.tk.length<=32
 tv:∀t∈x.tk,TvP t/\stB n t.p/\stB n t.d
 ul:x.us.length<=8
 uv:∀u∈x.us,UvP n u
theorem LgV.bd{n:Aa}{x:LgD}(h:LgV n x):x.cl.length=Al n/\x.bw.length=Al n/\x.pe.length<=24/\Al n<=48/\n.bs.length<=24/\n.ss.length<=6/\n.bs.length<=Al n:=⟨h.sg.lc,h.sg.lb,by have:=h.sg.pl;have:=h.nv.nb24;show x.pe.length<=24;have h3:x.pe.length<=n.bs.length:=h.sg.pl;omega,h.nv.cel.2.2,h.nv.nb24.2,h.nv.ns,h.nv.cel.2.1⟩
theorem LgV.pb{n:Aa}{x:LgD}(h:LgV n x):∀b∈x.pe,0<=b/\b<(x.cl.length:Int):=fun b hb=>by have:=h.sg.pb b hb;have:=h.bd;omega
theorem LgV.tk{n:Aa}{x:LgD}(h:LgV n x){tk:List TsD}(h1:tk.length<=32)(h2:∀t∈tk,TvP t/\stB n t.p/\stB n t.d):LgV n ⟨x.cl,x.bw,x.pe,tk,x.us⟩:=⟨h.nv,h.rw,h.sg,h1,h2,h.ul,h.uv⟩
theorem LgV.us'{n:Aa}{x:LgD}(h:LgV n x){us:List UsD}(h1:us.length<=8)(h2:∀u∈us,UvP n u):LgV n ⟨x.cl,x.bw,x.pe,x.tk,us⟩:=⟨h.nv,h.rw,h.sg,h.tl,h.tv,h1,h2⟩
theorem LgV.sig{n:Aa}{x:LgD}(h:LgV n x){cl:List Bool}{bw pe:List Int}(h1:BB n ⟨cl,bw,pe⟩):LgV n ⟨cl,bw,pe,x.tk,x.us⟩:=⟨h.nv,h.rw,h1,h.tl,h.tv,h.ul,h.uv⟩
theorem KI{α:Type}{l:List α}{i:Nat}{x:α}{p:α->Prop}(h:∀y∈l,p y)(hx:p x):∀y∈l.set i x,p y:=fun y hy=>by
 rcases List.mem_or_eq_of_mem_set hy with h1 | rfl
 .exact h y h1
 .exact hx
theorem Ma{α:Type}{l:List α}{x:α}{p:α->Prop}(h:∀y∈l,p y)(hx:p x):∀y∈l++[x],p y:=fun y hy=>by
 rcases UH.1 hy with h1 | h1
 .exact h y h1
 .rw[T7] at h1;exact h1 ▸ hx
theorem Oh{n:Aa}{p:Int}{s:Av}(h0:0<=p)(hs:n.ss[p.toNat]?=some s)(hd:s.dep=true):dpB n p=true:=by unfold dpB;rw[hs,Ul h0];exact hd
abbrev LgP(n:Aa):={p:LgD×Int×Int // LgV n p.1}
def lgQ{n:Aa}(p:LgP n):Ret:=lgR p.1
theorem AY{n:Aa}{σ:Type}{step:σ->Option (σ⊕Ret)}{x:LgD}(hV:LgV n x){a b:Int}{r:Ret}(h:r=lgR (x,a,b)):∃p:LgP n,Ac step (some (.inr r)) (lgQ p):=⟨⟨(x,a,b),hV⟩,by rw[h];exact .ret _⟩
theorem Pe{n:Aa}{nm:ByteArray}(h:(decide (Aw n nm<0))=false):0<=Aw n nm/\Aw n nm<(n.ss.length:Int)/\(Aw n nm).toNat<n.ss.length:=by have h:=of_decide_eq_false h;have:=KM n nm;omega
theorem NC{n:Aa}{nm:ByteArray}(h:(decide (Az n nm<0))=false):0<=Az n nm/\Az n nm<(n.bs.length:Int)/\(Az n nm).toNat<n.bs.length:=by have h:=of_decide_eq_false h;have:=RH n nm;omega
theorem tsk_ex{n:Aa}(cl:List Bool)(bw pe:List Int)(tk:List TsD)(us:List UsD)(c:CmD)(hV:LgV n ⟨cl,bw,pe,tk,us⟩):∃p:LgP n,Ac emT (Lb n cl bw pe tk us c) (lgQ p):=by
 have hb:=hV.bd;have hp:=hV.pb;have ht:=hV.tl;simp only at hb hp ht;have hL:=A9 cl;have hS:=DX ⟨cl,bw,pe⟩;have hS2:=A9 (AD ⟨cl,bw,pe⟩);simp only at hS;unfold Lb;refine Am (fun _=>AY hV rfl) (fun _=>Ah (by omega) (Am (fun _=>AY hV rfl) (fun ha=>Am (fun _=>AY hV rfl) (fun hd=>?_))));have ha:=Pe ha;have hd:=Pe hd;refine Ah ha.1 (AZ ha.2.2 fun s1 hs1=>Am (fun _=>AY hV rfl) fun e1=>Ah hd.1 (AZ hd.2.2 fun s2 hs2=>Am (fun _=>AY hV rfl) fun e2=>?_));refine Ah (by show cl.length<=_;omega) (Ah (by show pe.length<=_;omega) (Ah hp (Ah hL.symm (Ah (Lf _) (Ah hV.nv (Ah (by omega) (Ah ⟨ha.1,ha.2.1⟩ (Ah hS2.symm (Am (fun _=>AY hV rfl) fun _=>?_)))))))));refine Ah ⟨hd.1,hd.2.1⟩ (Am (fun _=>AY hV rfl) fun _=>Ah (by omega) (Am (fun _=>AY hV rfl) fun _=>Am (fun _=>AY hV rfl) fun h32=>?_));have hlt:tk.length≠32:=fun e=>by simp[iN,e] at h32
 refine Ah (by simp only[Ui,UQ];omega) (Ah (by simp only[Ui,UQ];omega) ?_);refine AY (x:=⟨cl,bw,pe,tk++[⟨Aw n c.a,Aw n c.b,0,-1,0⟩],us⟩) (a:=1) (b:=i64.wrap (iN (tk.length+1)-1)) (hV.tk (by simp only[Uy,UQ];omega) (Ma hV.tv ⟨?_,⟨ha.1,s1,hs1,e1⟩,⟨hd.1,s2,hs2,e2⟩⟩)) ?_
 .unfold TvP;simp
 .simp only[lgR,lgH,lgB,Us,Uy,Ui,Ub,Uc];rfl
theorem can_ex{n:Aa}(cl:List Bool)(bw pe:List Int)(tk:List TsD)(us:List UsD)(c:CmD)(hV:LgV n ⟨cl,bw,pe,tk,us⟩):∃p:LgP n,Ac emT (Ke cl bw pe tk us c) (lgQ p):=by
 have ht:=hV.tl;simp only at ht;unfold Ke;refine Am (fun _=>AY hV rfl) (fun h0=>Am (fun _=>AY hV rfl) (fun h1=>?_));have h0:=of_decide_eq_false h0;have h1:=of_decide_eq_false h1;simp only[iN] at h1;refine Ah (by omega) (Ah (by simp only[iN];omega) (AZ (by omega) fun x hx=>Am (fun _=>AY hV rfl) fun _=>AZ (by omega) fun y hy=>?_));rw[Uu] at hy;have hm:=hV.tv y (Uj hy);refine AY (x:=⟨cl,bw,pe,tk.set (0+c.q.toNat) ⟨y.p,y.d,4,y.q,y.ov⟩,us⟩) (a:=1) (b:=0) (hV.tk (by rw[UL];omega) (KI hV.tv ⟨?_,hm.2.1,hm.2.2⟩)) ?_
 .have:=hm.1;unfold TvP at this ⊢;simp only;omega
 .simp only[lgR,lgH,lgB,U0,UL];rfl
theorem shb_ex{n:Aa}(cl:List Bool)(bw pe:List Int)(tk:List TsD)(us:List UsD)(c:CmD)(hV:LgV n ⟨cl,bw,pe,tk,us⟩):∃p:LgP n,Ac emT (KH n cl bw pe tk us c) (lgQ p):=by
 have hb:=hV.bd;have hp:=hV.pb;have hu:=hV.ul;simp only at hb hp hu;have hL:=A9 cl;have hS:=DX ⟨cl,bw,pe⟩;have hS2:=A9 (AD ⟨cl,bw,pe⟩);simp only at hS;unfold KH;refine Ah (by omega) (Am (fun _=>AY hV rfl) (fun ha=>?_));have ha:=NC ha;refine Ah (by show cl.length<=_;omega) (Ah (by show pe.length<=_;omega) (Ah hp (Ah hL.symm (Ah (Lf _) (Ah ha.1 (Ah (by simp only[iN];omega) (AZ (by omega) fun x hx=>Am (fun _=>AY hV rfl) fun hxf=>?_)))))));refine Ah (by omega) (Ah hV.nv (Ah (by omega) (Ah hV.rw (Ah ⟨ha.1,ha.2.1⟩ (Ah hS2.symm (Am (fun _=>AY hV rfl) fun _=>?_))))));refine Ah (by simp only[Ui,UQ];omega) (Ah (by simp only[Ui,UQ];omega) ?_);have hg:=Qe (c:=cl) (l:=pe) hp (Az n c.a).toNat;rw[show (pe.foldl (fun c b=>c.set b.toNat true) cl)=AD ⟨cl,bw,pe⟩ from rfl,Ug,show(AD ⟨cl,bw,pe⟩)[(Az n c.a).toNat]?=some x by rw[<-hx,Uu],hxf,show(((Az n c.a).toNat:Nat):Int)=Az n c.a by omega] at hg;have hg:false=(cl.getD (Az n c.a).toNat true||AR pe (Az n c.a)):=hg;have hg1:cl.getD (Az n c.a).toNat true=false:=by cases hq:cl.getD (Az n c.a).toNat true with | false=>rfl | true=>rw[hq] at hg;cases hg
 have hg2:Az n c.a∉pe:=fun hm=>by rw[Fo.2 hm,Bool.or_true] at hg;cases hg
 refine AY (x:=⟨cl,bw,pe++[Az n c.a],tk,us⟩) (a:=1) (b:=0) (hV.sig (Qk hV.sg ⟨ha.1,ha.2.1⟩ hg1 hg2)) ?_;simp only[lgR,lgH,lgB,Us,Uy,Ui,Ub,Uc];rfl
theorem rem_ex{n:Aa}(cl:List Bool)(bw pe:List Int)(tk:List TsD)(us:List UsD)(c:CmD)(hV:LgV n ⟨cl,bw,pe,tk,us⟩):∃p:LgP n,Ac emT (Kr cl bw pe tk us c) (lgQ p):=by have hu:=hV.ul;simp only at hu;unfold Kr;refine Am (fun _=>AY hV rfl) (fun h0=>Am (fun _=>AY hV rfl) (fun h1=>?_));have h0:=of_decide_eq_false h0;have h1:=of_decide_eq_false h1;simp only[iN] at h1;refine Ah (by omega) (Ah (by simp only[iN];omega) (AZ (by omega) fun x hx=>Am (fun _=>AY hV rfl) fun _=>AZ (by omega) fun z hz=>Am (fun _=>AY hV rfl) fun _=>Am (fun _=>AY hV rfl) fun _=>Ah (by omega) (Am (fun _=>AY hV rfl) fun _=>AZ (by omega) fun y hy=>?_)));rw[Uu] at hy;have hm:=hV.uv y (Uj hy);refine AY (x:=⟨cl,bw,pe,tk,us.set (0+c.q.toNat) ⟨y.s,true,y.hm⟩⟩) (a:=1) (b:=0) (hV.us' (by rw[UL];omega) (KI hV.uv hm)) ?_;simp only[lgR,lgH,lgB,U0,UL];rfl
theorem sta_ex{n:Aa}(cl:List Bool)(bw pe:List Int)(tk:List TsD)(us:List UsD)(c:CmD)(hV:LgV n ⟨cl,bw,pe,tk,us⟩):∃p:LgP n,Ac emT (Kd n cl bw pe tk us c) (lgQ p):=by have hb:=hV.bd;simp only at hb;unfold Kd;refine Ah (by omega) (Am (fun _=>AY hV rfl) (fun ha=>?_));have ha:=NC ha;exact Ah ha.1 (Ah (by simp only[iN];omega) (AZ (by omega) fun x hx=>Am (fun _=>AY hV rfl) fun _=>Ah (by omega) (Am (fun _=>AY hV rfl) fun _=>AY hV rfl)))
theorem ad2_ex{n:Aa}(cl:List Bool)(bw pe:List Int)(tk:List TsD)(us:List UsD)(c:CmD)(hV:LgV n ⟨cl,bw,pe,tk,us⟩):∃p:LgP n,Ac emT (KZ n cl bw pe tk us c) (lgQ p):=by
 have hb:=hV.bd;have hp:=hV.pb;have hu:=hV.ul;simp only at hb hp hu;have hL:=A9 cl;have hS:=DX ⟨cl,bw,pe⟩;have hS2:=A9 (AD ⟨cl,bw,pe⟩);have hH:(hoL us).length=us.length:=by rw[Qz,Ui]
 simp only at hS;unfold KZ;refine Ah (by omega) (Am (fun _=>AY hV rfl) (fun ha=>?_));have ha:=Pe ha;refine Ah ha.1 (AZ ha.2.2 fun s1 hs1=>Am (fun _=>AY hV rfl) fun e1=>?_);refine Ah hV.rw (Ah hV.nv (Ah (by omega) (Am (fun _=>AY hV rfl) fun _=>Am (fun _=>AY hV rfl) fun h8=>?_)));have hlt:us.length≠8:=fun e=>by simp[iN,e] at h8
 refine Ah (by show cl.length<=_;omega) (Ah (by show pe.length<=_;omega) (Ah hp (Ah hL.symm (Ah (Lf _) (Ah (NV _) (Ah (by omega) (Ah ⟨ha.1,ha.2.1⟩ (Ah (by omega) (Ah hS2.symm (Am (fun _=>AY hV rfl) fun _=>?_))))))))));refine Ah (by simp only[Ui,UQ];omega) (Ah (by simp only[Ui,UQ];omega) ?_);have hd:dpB n (Aw n c.a)=true:=Oh ha.1 hs1 (by cases hq:s1.dep with | true=>rfl | false=>rw[hq] at e1;cases e1);refine AY (x:=⟨cl,bw,pe,tk,us++[⟨0,false,Aw n c.a⟩]⟩) (a:=1) (b:=i64.wrap (iN (us.length+1)-1)) (hV.us' (by simp only[Uy,UQ];omega) (Ma hV.uv ?_)) ?_
 .exact⟨by show(0:Int)<=0;omega,by show(0:Int)<=3;omega,by show -2<=Aw n c.a;omega,fun _=>hd⟩
 .simp only[lgR,lgH,lgB,Us,Uy,Ui,Ub,Uc];rfl
end Go.Proofs.YthjgbnbibebigaaGreat
namespace Go.AX
variable {P:Program}
def sgL:List Nat->List Nat
 | []=>[]
 | x::r=>match Nat.ble 1000000 x with | true=>sgL r | false=>x::sgL r
def fzL:List Nat->List Nat
 | []=>[]
 | x::r=>match Nat.ble 1000000 x with | true=>(x-1000000)::fzL r | false=>fzL r
inductive AI {σ:Type} (S:σ->St):Option (σ⊕Ret)->Type 1 where | br {X Y:Option (σ⊕Ret)} {b:Bool} (x:b=true->AI S X) (y:b=false->AI S Y):AI S (Go.AX.br b X Y) | gu {X:Option (σ⊕Ret)} {p:Prop} (x:p->AI S X):AI S (Go.AX.gu p X) | el {β:Type} {F:β->Option (σ⊕Ret)} {l:List β} {i:Nat} (x:(v:β)->l[i]?=some v->AI S (F v)):AI S (Go.AX.el l i F) | rn {X:Option (σ⊕Ret)} (K:Nat) (d:List Nat) (e:List (Nat×AV)) (cl:List (Nat×AG)) (F:List (Nat×Nat)) {p:Prop} (hp:p) (x:AI S X):AI S X | lp (d:List Nat) (e:List (Nat×AV)) (cl:List (Nat×AG)) (F vl:List (Nat×Nat)) (sg vars:List Nat) {s:σ} {p:Prop} (hp:p):AI S (some (.inl s)) | lq (d:List Nat) (e:List (Nat×AV)) (cl:List (Nat×AG)) (F vl:List (Nat×Nat)) (sg vars:List Nat) {s:σ} (s':St) {p:Prop} (hp:p) (h:s'=S s):AI S (some (.inl s)) | rt (d:List Nat) (e:List (Nat×AV)) (cl:List (Nat×AG)) (F:List (Nat×Nat)) (sg fz:List Nat) {r:Ret} {p:Prop} (hp:p):AI S (some (.inr r)) | no:AI S none
def AI.go{σ:Type}{S:σ->St}(P:Program)(fn:Func)(m:Nat){X:Option (σ⊕Ret)}(t:AI S X):Cfg:=AI.rec (motive:=fun _ _=>Cfg) (fun {_ _ b} _ _ ix iy c k st=>Raw.br b (fun h=>ix h c k st) (fun h=>iy h c k st)) (fun {_ p} _ ix c k st=>Raw.gu p (fun h=>ix h c k st)) (fun {_ _ l i} _ ix c k st=>Raw.el l i (fun v h=>ix v h c k st)) (fun K d e cl F _ _ _ ix c k st=>rnR ix (gk P F m 4000 K (hT (ds d) e cl) c k st)) (fun d e cl F vl sg vars _ _ _ c k st=>Raw.lp (D4 m vl (sgL sg) (fzL sg) vars (gm P F m 4000 (hT (ds d) e cl) c k st))) (fun d e cl F vl sg vars _ _ _ _ _ c k st=>Raw.lp (D4 m vl (sgL sg) (fzL sg) vars (gm P F m 4000 (hT (ds d) e cl) c k st))) (fun d e cl F sg fz _ _ _ c k st=>Raw.rt (FD P fn m sg fz (gm P F m 4000 (hT (ds d) e cl) c k st))) (fun _ _ _=>Raw.no) t
def AI.er{σ:Type}{S:σ->St}(fn:Func)(hd:σ->Nat){X:Option (σ⊕Ret)}(t:AI S X):Raw:=AI.rec (motive:=fun _ _=>Raw) (fun {_ _ b} _ _ ix iy=>Raw.br b ix iy) (fun {_ p} _ ix=>Raw.gu p ix) (fun {_ _ l i} _ ix=>Raw.el l i ix) (fun _ _ _ _ _ p _ _ ix=>Raw.rn p ix) (fun _ _ _ _ _ _ _ s p _=>Raw.lp (some (Ca fn (hd s),B9 fn (hd s),S s,p))) (fun _ _ _ _ _ _ _ s s' p _ _=>Raw.lp (some (Ca fn (hd s),B9 fn (hd s),s',p))) (fun _ _ _ _ _ _ r p _=>Raw.rt (some (r.1,r.2,p))) Raw.no t
theorem AI.sound{σ:Type}{S:σ->St}{fn:Func}{m:Nat}{hd:σ->Nat}(hmix:P.follows .mixedOrders=true){X:Option (σ⊕Ret)}(t:AI S X):
  ∀c k st,t.go P fn m c k st=t.er fn hd->∀o,X=some o->CN P fn m S hd c k st o:=by
 induction t with
 | br x y ix iy=>
  intro c k st h o ho;have h':=h;simp only[AI.go,AI.er,Raw.br.injEq,heq_eq_eq,true_and] at h';rcases QE ho with ⟨hb,ho⟩ | ⟨hb,ho⟩
  .exact ix hb c k st (congrFun h'.1 hb) o ho
  .exact iy hb c k st (congrFun h'.2 hb) o ho
 | gu x ix=>intro c k st h o ho;have h':=h;simp only[AI.go,AI.er,Raw.gu.injEq,heq_eq_eq,true_and] at h';obtain⟨hp,ho⟩:=Qh ho;exact ix hp c k st (congrFun h' hp) o ho
 | el x ix=>intro c k st h o ho;have h':=h;simp only[AI.go,AI.er,Raw.el.injEq,heq_eq_eq,true_and] at h';obtain⟨v,hv,ho⟩:=Q8 ho;exact ix v hv c k st (congrFun (congrFun h' v) hv) o ho
 | rn K d e cl F hp x ix=>
  intro c k st h o ho;have h':rnR (fun c k st=>x.go P fn m c k st) (gk P F m 4000 K (hT (ds d) e cl) c k st)=Raw.rn _ (x.er fn hd):=h;generalize hg:gk P F m 4000 K (hT (ds d) e cl) c k st=y at h';cases y with
  | none=>simp[rnR] at h'
  | some y=>
   obtain⟨c',k',st',p'⟩:=y;simp only[rnR,Raw.rn.injEq] at h';have hp':p':=h'.1 ▸ hp;have hr:=ix c' k' st' h'.2 o ho;cases o with
   | inl s=>exact fun post hk=>Kq hmix _ _ _ _ _ _ _ _ _ _ hg hp' (hr post hk)
   | inr r=>exact Kq hmix _ _ _ _ _ _ _ _ _ _ hg hp' hr
 | lp d e cl F vl sg vars hp=>intro c k st h o ho;cases ho;have h':=h;simp only[AI.go,AI.er,Raw.lp.injEq] at h';exact CN.loop hmix h' hp
 | lq d e cl F vl sg vars s' hp hs=>intro c k st h o ho;cases ho;have h':=h;simp only[AI.go,AI.er,Raw.lp.injEq] at h';subst hs;exact CN.loop hmix h' hp
 | rt d e cl F sg fz hp=>intro c k st h o ho;cases ho;have h':=h;simp only[AI.go,AI.er,Raw.rt.injEq] at h';exact CN.ret hmix h' hp
 | no=>intro c k st h o ho;cases ho
theorem AI.ok{σ:Type}{S:σ->St}{fn:Func}{m:Nat}{hd:σ->Nat}{X:Option (σ⊕Ret)}{c:Code}{k:List Ks}{st:St}{o:σ⊕Ret}(ho:X=some o)(hmix:P.follows .mixedOrders=true)(t:AI S X)
  (h:t.go P fn m (.inl c) k st=t.er fn hd):Arr P fn m S hd c k st o:=by
 have:=AI.sound hmix t (.inl c) k st h o ho;cases o<;>exact this
end Go.AX
namespace Go.Proofs.YthjgbnbibebigaaGreat
inductive Fr where | l0 (v0:Int) | l1 (v0:Int) (v1:List Bool) (v2 v3:List Int)
def op6St(n:Aa)(cl:List Bool)(bw pe:List Int)(tk:List TsD)(us:List UsD)(c:CmD):Fr->St | .l0 v0=>St.mk 117 [(1,AV.ptr 0 0 0),(3,AV.ptr 1 0 0),(6,AV.ptr 2 0 0),(7,Va (U4 iv (nmL n c.a))),(8,AV.ptr 3 0 0),(9,iv v0)] [some (bK [AV.agg [Va (boL cl),Va (U4 iv bw),Va (U4 iv pe),Va (U4 tsA tk),Va (U4 usA us)]] 5),some (bK [Ai n] 8),some (bK [AV.agg [iv 0,iv 0]] 2),some (bK [AV.agg [Va (boL cl),Va (U4 iv bw),Va (U4 iv pe)]] 3)] | .l1 v0 v1 v2 v3=>St.mk 117 [(1,AV.ptr 0 0 0),(3,AV.ptr 1 0 0),(6,AV.ptr 2 0 0),(7,Va (U4 iv (nmL n c.a))),(8,AV.ptr 3 0 0),(11,iv v0)] [some (bK [AV.agg [Va (boL cl),Va (U4 iv bw),Va (U4 iv pe),Va (U4 tsA tk),Va (U4 usA us)]] 5),some (bK [Ai n] 8),some (bK [AV.agg [iv 0,iv 0]] 2),some (bK [AV.agg [Va (U4 bV v1),Va (U4 iv v2),Va (U4 iv v3)]] 3)]
def IZ(n:Aa)(cl:List Bool)(bw pe:List Int)(tk:List TsD)(us:List UsD)(c:CmD):Option (Fr⊕Ret):=gu (NmI n) <|br (iN (U4 iV (nmL n c.a)).length==0) (some (.inr (lgH cl bw pe tk us,AV.agg [iV 3,iV 0]))) (gu (cl.length=(boL cl).length) <|some (.inl (.l0 ((0:Int)))))
def Ir(n:Aa)(cl:List Bool)(bw pe:List Int)(tk:List TsD)(us:List UsD)(c:CmD)(v0:Int):Option (Fr⊕Ret):=br (decide (v0<iN (U4 iV (nmL n c.a)).length)) (gu (0<=v0) <|el (nmL n c.a) (v0.toNat) fun(x37:Int)=>gu (0<=x37) <|el (bw) (x37.toNat) fun(x39:Int)=>el (nmL n c.a) (v0.toNat) fun(x45:Int)=>gu (0<=x45) <|el (cl) (x45.toNat) fun(x47:Bool)=>br x47 (br (decide (0<=x39)) (br (decide (x39<iN (U4 usA us).length)) (gu (0<=x39) <|el (us) (x39.toNat) fun(x68:UsD)=>br (x68.s==2) (some (.inr ([some (bK [AV.agg [Va (boL cl),Va (U4 iV bw),Va (U4 iV pe),Va (U4 tsA tk),Va (U4 usA us)]] 5)],AV.agg [iV 10,iV 0]))) (some (.inl (.l0 (i64.wrap (v0+1)))))) (some (.inl (.l0 (i64.wrap (v0+1)))))) (some (.inl (.l0 (i64.wrap (v0+1)))))) (some (.inl (.l0 (i64.wrap (v0+1)))))) (some (.inl (.l1 ((0:Int)) (cl) (bw) (pe))))
def Hi(n:Aa)(cl:List Bool)(bw pe:List Int)(tk:List TsD)(us:List UsD)(c:CmD)(v0:Int)(v1:List Bool)(v2 v3:List Int):Option (Fr⊕Ret):=br (decide (v0<iN (U4 iV (nmL n c.a)).length)) (gu (0<=v0) <|el (nmL n c.a) (v0.toNat) fun(x83:Int)=>gu (v1.length<=1000000) <|gu (v2.length<=1000000) <|gu (v3.length<=1000000) <|gu (0<=x83) <|gu (x83<iN v1.length) <|gu (x83<iN v2.length) <|some (.inl (.l1 (i64.wrap (v0+1)) ((opS (Aj.mk v1 v2 v3) x83).cl) ((opS (Aj.mk v1 v2 v3) x83).bw) ((opS (Aj.mk v1 v2 v3) x83).pe)))) (gu (us.length<=1000000) <|gu ((Aj.mk cl bw pe).cl.length<=1000000) <|gu ((Aj.mk cl bw pe).pe.length<=1000000) <|gu (∀(b:Int),b∈(Aj.mk cl bw pe).pe->0<=b/\b<iN (Aj.mk cl bw pe).cl.length) <|gu (Aq n) <|gu ((AD (Aj.mk cl bw pe)).length=Al n) <|gu (RwV n) <|br (caB n (AD (Aj.mk cl bw pe)) (cnF us)) (gu ((Aj.mk v1 v2 v3).cl.length<=1000000) <|gu ((Aj.mk v1 v2 v3).pe.length<=1000000) <|gu (∀(b:Int),b∈(Aj.mk v1 v2 v3).pe->0<=b/\b<iN (Aj.mk v1 v2 v3).cl.length) <|gu ((AD (Aj.mk v1 v2 v3)).length=Al n) <|br (!caB n (AD (Aj.mk v1 v2 v3)) (cnF us)) (some (.inr ([some (bK [AV.agg [Va (boL cl),Va (U4 iV bw),Va (U4 iV pe),Va (U4 tsA tk),Va (U4 usA us)]] 5)],AV.agg [iV 5,iV 0]))) (some (.inr ([some (bK [AV.agg [Va (U4 bV v1),Va (U4 iV v2),Va (U4 iV v3),Va (U4 tsA tk),Va (U4 usA us)]] 5)],AV.agg [iV 1,iV 0])))) (some (.inr ([some (bK [AV.agg [Va (U4 bV v1),Va (U4 iV v2),Va (U4 iV v3),Va (U4 tsA tk),Va (U4 usA us)]] 5)],AV.agg [iV 1,iV 0]))))
def EP(n:Aa)(cl:List Bool)(bw pe:List Int)(tk:List TsD)(us:List UsD)(c:CmD):Fr->Option (Fr⊕Ret) | .l0 v0=>Ir n cl bw pe tk us c v0 | .l1 v0 v1 v2 v3=>Hi n cl bw pe tk us c v0 v1 v2 v3
theorem Rf(n:Aa)(cl:List Bool)(bw pe:List Int)(tk:List TsD)(us:List UsD)(c:CmD)(r:Ret)(h:Ac (EP n cl bw pe tk us c) (IZ n cl bw pe tk us c) r):CTX Vb 60 (lgH cl bw pe tk us) ([Ai n,.ptr 0 0 0,cmA c]) r.1 r.2:=
 CTX.mach (fn:=Tryz.f60) (c:=zB Tryz.f60) (S:=(op6St n cl bw pe tk us c)) (hd:=Fr.ctorIdx) Tryz.func60 (by kernel_rfl) (nL rfl) (nL rfl)
  (fun s o ho=>match s,ho with
 | .l0 v0,ho=>AI.ok (X:=Ir n cl bw pe tk us c v0) ho mix (
 .rn 0 [] [] [] [] (al (u2 (u2 (u2 (al t3))))) <|
 .br (fun a0=>
 .gu fun a1=>
 .el fun x37 a2=>
 .gu fun a3=>
 .el fun x39 a4=>
 .rn 0 [61] [(37,iv x37),(39,iv x39)] [] [] (aj a0 (al (u2 (u2 (u2 (u2 (aj (k2 (aj a1 (Af (f:=iv) a2))) (u2 (aj (k2 (aj a3 (Af (f:=iv) a4))) (u2 s2)))))))))) <|
 .el fun x45 a5=>
 .gu fun a6=>
 .el fun x47 a7=>
 .br (fun a8=>
  .br (fun a9=>
  .br (fun a10=>
   .gu fun a11=>
   .el fun x68 a12=>
   .rn 0 [99,107,125] [(45,iv x45),(47,bV x47),(68,usA x68)] [] [] (al (u2 (u2 (u2 (u2 (aj (k2 (aj a1 (Af (f:=iv) a5))) (u2 (aj (k2 (aj a6 (Af (f:=bV) a7))) (u2 (u2 (ag a8 (ag a8 (ag a8 (u2 (ag a9 (ag a9 (ag a9 (ag a9 (ag a9 (ag a9 (aj (aj a9 t3) (ag a9 (u2 (ag a10 (ag a10 (ag a10 (ag a10 (ag a10 (aj (aj a10 (k2 (aj a11 (Af (f:=usA) a12)))) (ag a10 (ag a10 (ag a10 (al (aj a10 t2)))))))))))))))))))))))))))))))))) <|
   .br (fun a13=>
   have c0:=AQ (10);
   .rt [99,107,125,145] [] [(73,hK c0 [] [])] [] [0] [] (aj (aj a13 (al (aj (ak (al (c0))) (al (k2 n11))))) (aj t3 t2)))
   (fun a13=>
   .lp [99,107,125,144] [] [] [] [] [0,1,2,3] [1,3,6,7,8,9] (aj (aj a13 (al (u2 (u2 s2)))) (k2 t9))))
  (fun a10=>
   .lp [99,107,124] [(45,iv x45),(47,bV x47)] [] [] [] [0,1,2,3] [1,3,6,7,8,9] (aj (aj (u2 (u2 (u2 (u2 (aj (k2 (aj a1 (Af (f:=iv) a5))) (u2 (aj (k2 (aj a6 (Af (f:=bV) a7))) (u2 (u2 (ag a8 (ag a8 (ag a8 (u2 (ag a9 (ag a9 (ag a9 (ag a9 (ag a9 (ag a9 (aj (aj a9 t3) (ag a9 (u2 (aj a10 (aj a10 (aj a10 (aj a10 (aj a10 (aj a10 (aj a10 (aj a10 (aj a10 (al (aj a10 t2))))))))))))))))))))))))))))))))) (ak (al (u2 (u2 s2))))) (k2 t9))))
  (fun a9=>
  .lp [99,106] [(45,iv x45),(47,bV x47)] [] [] [] [0,1,2,3] [1,3,6,7,8,9] (aj (aj (u2 (u2 (u2 (u2 (aj (k2 (aj a1 (Af (f:=iv) a5))) (u2 (aj (k2 (aj a6 (Af (f:=bV) a7))) (u2 (u2 (ag a8 (ag a8 (ag a8 (u2 (aj a9 (aj a9 (aj a9 (aj a9 (aj a9 (aj a9 (aj a9 (ag a9 (u2 (ak (k3 (k5 (al t3)))))))))))))))))))))))))) (ak (al (u2 (u2 s2))))) (k2 t9))))
 (fun a8=>
  .lp [98] [(45,iv x45),(47,bV x47)] [] [] [] [0,1,2,3] [1,3,6,7,8,9] (aj (aj (u2 (u2 (u2 (u2 (aj (k2 (aj a1 (Af (f:=iv) a5))) (u2 (aj (k2 (aj a6 (Af (f:=bV) a7))) (u2 (u2 (aj a8 (aj a8 (ag a8 (u2 (k2 (k5 (aj t3 (u2 (ak (k3 (k5 (al t3))))))))))))))))))))) (ak (al (u2 (u2 s2))))) (k2 t9))))
 (fun a0=>
 .lp [60] [] [] [] [] [0,1,2,3] [1,3,6,7,8,11] (aj (aj a0 s2) (k2 t9)))) (by kernel_rfl)
 | .l1 v0 v1 v2 v3,ho=>AI.ok (X:=Hi n cl bw pe tk us c v0 v1 v2 v3) ho mix (
 .rn 0 [] [] [] [] (al (u2 (u2 (u2 (al t3))))) <|
 .br (fun a0=>
 .gu fun a1=>
 .el fun x83 a2=>
 .gu fun a3=>
 .gu fun a4=>
 .gu fun a5=>
 .gu fun a6=>
 .gu fun a7=>
 .gu fun a8=>
 have c0:=rops_c v1 v2 v3 x83 a3 a4 a5 a6 a7 a8;
 .lp [155] [(83,iv x83)] [(85,hK c0 [] [])] [] [] [0,1,2,3] [1,3,6,7,8,11] (aj (aj a0 (aj (u2 (u2 (u2 (aj (k2 (aj a1 (Af (f:=iv) a2))) (u2 (aj (k2 (aj t4 (ak (al (c0))))) (al (k2 (show Nat.le 1 [AV.agg [Va (U4 bV v1),Va (U4 iv v2),Va (U4 iv v3)]].length from(nL rfl)))))))))) (al (u2 (u2 s2))))) (k2 t9)))
 (fun a0=>
 .gu fun a1=>
 have c0:=JQ (us) a1;
 .rn 0 [154] [] [(91,hK c0 [] [])] [] (aj a0 (al (u2 (u2 (u2 (u2 (aj (k2 (al (c0))) (u2 (u2 (u2 (u2 (u2 (u2 s2))))))))))))) <|
 .gu fun a2=>
 .gu fun a3=>
 .gu fun a4=>
 .gu fun a5=>
 .gu fun a6=>
 .gu fun a7=>
 .br (fun a8=>
  .gu fun a9=>
  .gu fun a10=>
  .gu fun a11=>
  .gu fun a12=>
  have c1:=OA (Aj.mk cl bw pe) a2 a3 a4;
  have c2:=Ka (cnF us) a5 a6 a7;
  have c3:=OA (Aj.mk v1 v2 v3) a9 a10 a11;
  have c4:=Ka (cnF us) a5 a12 a7;
  .rn 0 [207] [] [(100,hK c1 [] []),(102,hK c2 [] []),(106,hK c3 [] []),(108,hK c4 [] [])] [] (al (u2 (u2 (u2 (u2 (u2 (aj (ak (aj t4 (al (c1)))) (u2 (aj (k3 (aj t9 (k2 (al (c2))))) (u2 (ag a8 (ag a8 (aj (aj a8 (ak (aj t4 (al (c3))))) (ag a8 (aj (aj a8 (k3 (aj t9 (k2 (al (c4)))))) (ag a8 (al (aj a8 t2)))))))))))))))))) <|
  .br (fun a13=>
  have c5:=AQ (5);
  .rt [207,221] [] [(111,hK c5 [] [])] [] [0] [] (aj (aj a13 (al (aj (ak (al (c5))) (al (k2 n11))))) (aj t3 t2)))
  (fun a13=>
  have c5:=AQ (1);
  .rt [207,220] [] [(116,hK c5 [] [])] [] [0] [] (aj (aj a13 (aj (u2 (u2 (u2 (u2 (al t3))))) (al (aj (ak (al (c5))) (al (k2 n11)))))) (aj t3 t2))))
 (fun a8=>
  have c1:=OA (Aj.mk cl bw pe) a2 a3 a4;
  have c2:=Ka (cnF us) a5 a6 a7;
  have c3:=AQ (1);
  .rt [206] [] [(100,hK c1 [] []),(102,hK c2 [] []),(116,hK c3 [] [])] [] [0] [] (aj (aj (u2 (u2 (u2 (u2 (u2 (aj (ak (aj t4 (al (c1)))) (u2 (aj (k3 (aj t9 (k2 (al (c2))))) (u2 (aj a8 (aj a8 (aj a8 (aj a8 (aj a8 (aj a8 (al (aj a8 t2))))))))))))))))) (ak (aj (u2 (u2 (u2 (u2 (al t3))))) (al (aj (ak (al (c3))) (al (k2 n11))))))) (aj t3 t2))))) (by kernel_rfl)
  )
  (fun o ho=>AI.ok (X:=IZ n cl bw pe tk us c) ho mix (
 .rn 0 [] [] [] [] (al (u2 (u2 t2))) <|
 .gu fun a0=>
 have c0:=nmd_c n (c.a) a0;
 .rn 1 [] [] [(18,hK c0 [] [])] [] (aj (u2 (u2 (u2 (aj (k2 (aj t9 (ak (al (c0))))) s2)))) (al (u2 (u2 s2)))) <|
 .br (fun a1=>
 have c1:=AQ (3);
 .rt [43] [] [(22,hK c1 [] [])] [] [0,1,2,3,4,5] [] (aj (aj a1 (al (aj (ak (al (c1))) (al (k2 n11))))) (aj t3 (aj (al t6) t6))))
 (fun a1=>
 .rn 1 [42] [] [] [] (aj a1 (aj (u2 (u2 (u2 (u2 (ak (al (k2 n11))))))) s2)) <|
 .gu fun a2=>
 .lp [] [] [] [] [] [0,6,8,9,1000001,1000002,1000003,1000004,1000005] [1,3,6,7,8,9] (k2 (k5 (aj (al (aj a2 (aj (show bw.length=(U4 iv bw).length by simp) (aj (show pe.length=(U4 iv pe).length by simp) (aj (show tk.length=(U4 tsA tk).length by simp) (al (show us.length=(U4 usA us).length by simp))))))) (k2 (al (al (aj a2 (aj (show bw.length=(U4 iv bw).length by simp) (al (show pe.length=(U4 iv pe).length by simp)))))))))))) (by kernel_rfl)) h
theorem Pa{n:Aa}(hv:Aq n)(nm:ByteArray):∀x∈nmL n nm,0<=x/\x<(Al n:Int):=by
 intro x hx;unfold nmL at hx;split at hx
 .rw[T7] at hx;have:=RH n nm;have:=hv.cel;omega
 .split at hx
  .rename_i h;have hlt:(Aw n nm).toNat<n.ss.length:=by have:=KM n nm;omega
   have hg:n.ss[(Aw n nm).toNat]?=some (n.ss.getD (Aw n nm).toNat ⟨nm,false,0,0,0,0⟩):=by rw[Ug,Uf hlt];rfl
   have h1:=hv.sb hg;have h2:=hv.ends hg;unfold spC at hx;obtain⟨i,hi,rfl⟩:=UI.1 hx;rw[List.mem_range] at hi;omega
  .cases hx
theorem LgV.nmI{n:Aa}{x:LgD}(h:LgV n x):NmI n:=by have hb:=h.bd;refine⟨by omega,by omega,fun s hs=>?_⟩;obtain⟨i,hi⟩:=List.getElem?_of_mem hs;have:=h.nv.sb hi;omega
def Ll{n:Aa}(p:LgP n):Ret:=(lgF p.1.1,.agg [.int .i64 p.1.2.1,.int .i64 p.1.2.2])
theorem Li{n:Aa}{σ:Type}{step:σ->Option (σ⊕Ret)}{x:LgD}(hV:LgV n x){a b:Int}{r:Ret}(h:r=(lgF x,.agg [.int .i64 a,.int .i64 b])):∃p:LgP n,Ac step (some (.inr r)) (Ll p):=⟨⟨(x,a,b),hV⟩,by rw[h];exact .ret _⟩
theorem op6_l1{n:Aa}(cl:List Bool)(bw pe:List Int)(tk:List TsD)(us:List UsD)(c:CmD)(hV:LgV n ⟨cl,bw,pe,tk,us⟩):∀(d i:Nat) (v1:List Bool) (v2 v3:List Int),i+d=(nmL n c.a).length->BB n ⟨v1,v2,v3⟩->(nmL n c.a).length<=1000000->∃p:LgP n,Ac (EP n cl bw pe tk us c) (some (.inl (.l1 (i:Int) v1 v2 v3))) (Ll p):=by
 have hb:=hV.bd;have hp:=hV.pb;have hu:=hV.ul;simp only at hb hp hu;have hS:=DX ⟨cl,bw,pe⟩;simp only at hS;intro d;induction d with
 | zero=>intro i v1 v2 v3 hi hs hn;have hb2:=(hV.sig hs).bd;have hp2:=(hV.sig hs).pb;simp only at hb2 hp2;have hS2:=DX ⟨v1,v2,v3⟩;simp only at hS2;refine Ay (show EP n cl bw pe tk us c (.l1 (i:Int) v1 v2 v3)=Hi n cl bw pe tk us c i v1 v2 v3 from rfl) ?_;unfold Hi;rw[Ad (Uk (by simp only[iN,Ui];omega))];refine Ah (by omega) (Ah (by show cl.length<=_;omega) (Ah (by show pe.length<=_;omega) (Ah hp (Ah hV.nv (Ah (by omega) (Ah hV.rw (Am (fun _=>?_) (fun _=>Li (hV.sig hs) rfl))))))));exact Ah (by show v1.length<=_;omega) (Ah (by show v3.length<=_;omega) (Ah hp2 (Ah (by omega) (Am (fun _=>Li hV rfl) (fun _=>Li (hV.sig hs) rfl)))))
 | succ d ih=>intro i v1 v2 v3 hi hs hn;have hb2:=(hV.sig hs).bd;simp only at hb2;refine Ay (show EP n cl bw pe tk us c (.l1 (i:Int) v1 v2 v3)=Hi n cl bw pe tk us c i v1 v2 v3 from rfl) ?_;unfold Hi;rw[Ag (Ul (by simp only[iN,Ui];omega))];refine Ah (by omega) (AZ (by omega) fun x hx=>?_);have hm:=Pa hV.nv c.a x (Uj hx);refine Ah (by omega) (Ah (by omega) (Ah (by omega) (Ah hm.1 (Ah (by simp only[iN];omega) (Ah (by simp only[iN];omega) ?_)))));rw[Bk i (by omega)];exact ih (i+1) _ _ _ (by omega) (opS_ok hs hm) hn
theorem op6_l0{n:Aa}(cl:List Bool)(bw pe:List Int)(tk:List TsD)(us:List UsD)(c:CmD)(hV:LgV n ⟨cl,bw,pe,tk,us⟩)(hn:(nmL n c.a).length<=1000000):∀(d i:Nat),i+d=(nmL n c.a).length->∃p:LgP n,Ac (EP n cl bw pe tk us c) (some (.inl (.l0 (i:Int)))) (Ll p):=by
 have hb:=hV.bd;simp only at hb;intro d;induction d with
 | zero=>intro i hi;refine Ay (show EP n cl bw pe tk us c (.l0 (i:Int))=Ir n cl bw pe tk us c i from rfl) ?_;unfold Ir;rw[Ad (Uk (by simp only[iN,Ui];omega))];exact op6_l1 cl bw pe tk us c hV (nmL n c.a).length 0 _ _ _ (Uu _) hV.sg hn
 | succ d ih=>intro i hi;refine Ay (show EP n cl bw pe tk us c (.l0 (i:Int))=Ir n cl bw pe tk us c i from rfl) ?_;have nx:=ih (i+1) (by omega);rw[<-Bk i (by omega)] at nx;unfold Ir;rw[Ag (Ul (by simp only[iN,Ui];omega))];refine Ah (by omega) (AZ (by omega) fun x hx=>?_);have hm:=Pa hV.nv c.a x (Uj hx);refine Ah hm.1 (AZ (by omega) fun y hy=>AZ (by omega) fun z hz=>?_);have hz2:=Pa hV.nv c.a z (Uj hz);refine Ah hz2.1 (AZ (by omega) fun q hq=>Am (fun _=>Am (fun h0=>Am (fun h1=>?_) fun _=>nx) fun _=>nx) fun _=>nx);have h0:=of_decide_eq_true h0;have h1:=of_decide_eq_true h1;simp only[iN,Ui] at h1;exact Ah h0 (AZ (by omega) fun u hu=>Am (fun _=>Li hV rfl) fun _=>nx)
theorem op6_ex{n:Aa}(cl:List Bool)(bw pe:List Int)(tk:List TsD)(us:List UsD)(c:CmD)(hV:LgV n ⟨cl,bw,pe,tk,us⟩):∃p:LgP n,CTX Vb 60 (lgH cl bw pe tk us) [Ai n,.ptr 0 0 0,cmA c] (lgF p.1.1) (.agg [.int .i64 p.1.2.1,.int .i64 p.1.2.2]):=by
 have hi:=hV.nmI;have hn:(nmL n c.a).length<=1000000:=by
  unfold nmL;split
  .simp
  .split
   .rename_i h;have hlt:(Aw n c.a).toNat<n.ss.length:=by have:=KM n c.a;omega
    have hg:n.ss[(Aw n c.a).toNat]?=some (n.ss.getD (Aw n c.a).toNat ⟨c.a,false,0,0,0,0⟩):=by rw[Ug,Uf hlt];rfl
    have h1:=hi.2.2 _ (Uj hg);unfold spC;rw[Ui,UV];omega
   .simp
 by_cases h0:(iN (U4 (AV.int .i64) (nmL n c.a)).length==0)=true
 .refine⟨⟨(⟨cl,bw,pe,tk,us⟩,3,0),hV⟩,frzL (Rf n cl bw pe tk us c (lgR (⟨cl,bw,pe,tk,us⟩,3,0)) (.val ?_))⟩;unfold IZ;rw[Ab hi,Ag h0];rfl
 .obtain⟨p,hp⟩:∃p:LgP n,Ac (EP n cl bw pe tk us c) (IZ n cl bw pe tk us c) (Ll p):=by unfold IZ;rw[Ab hi,Ad (by simpa using h0)];exact Ah (A9 cl).symm (op6_l0 cl bw pe tk us c hV hn _ 0 (Uu _))
  exact⟨p,Rf n cl bw pe tk us c _ hp⟩
theorem G8{n:Aa}{f:FuncId}{hin:List (Option Blk)}{args:List AV}(h:∃p:LgP n,CTX Vb f hin args (lgQ p).1 (lgQ p).2):∃p:LgP n,CTX Vb f hin args (lgF p.1.1) (.agg [.int .i64 p.1.2.1,.int .i64 p.1.2.2]):=by obtain⟨p,hp⟩:=h;exact⟨p,frzL hp⟩
theorem exQ{n:Aa}{x:LgD}{f:FuncId}{hin:List (Option Blk)}{args:List AV}(h:LgV n x->∃p:LgP n,CTX Vb f hin args (lgF p.1.1) (.agg [.int .i64 p.1.2.1,.int .i64 p.1.2.2])):∃p:LgD×Int×Int,LgV n x->LgV n p.1/\CTX Vb f hin args (lgF p.1) (.agg [.int .i64 p.2.1,.int .i64 p.2.2]):=by
 by_cases hV:LgV n x
 .obtain⟨p,hp⟩:=h hV;exact⟨p.1,fun _=>⟨p.2,hp⟩⟩
 .exact⟨(x,0,0),fun q=>absurd q hV⟩
def Fl(n1 n2 n3 n4 n5:Nat)(cl:List Bool)(bw pe:List Int)(tk:List TsD)(us:List UsD):List (Option Blk):=[some {es:=[lgB (.sl 1 0 n1) (.sl 2 0 n2) (.sl 3 0 n3) (.sl 4 0 n4) (.sl 5 0 n5)],z:=5,flat:=false},some {es:=boL cl,z:=1},some {es:=bw.map (AV.int .i64),z:=1},some {es:=pe.map (AV.int .i64),z:=1},some {es:=tk.map tsA,z:=5},some {es:=us.map usA,z:=13}]
theorem JB(n:Aa)(cl:List Bool)(bw pe:List Int)(tk:List TsD)(us:List UsD)(c:CmD):∃p:LgD×Int×Int,LgV n ⟨cl,bw,pe,tk,us⟩->LgV n p.1/\CTX Vb 57 (lgH cl bw pe tk us) [Ai n,.ptr 0 0 0,cmA c] (lgF p.1) (.agg [.int .i64 p.2.1,.int .i64 p.2.2]):=exQ fun hV=>G8 (by obtain⟨p,hp⟩:=tsk_ex cl bw pe tk us c hV;exact⟨p,tsk_ct n cl bw pe tk us c _ hp⟩)
@[irreducible] def DP(n:Aa)(cl:List Bool)(bw pe:List Int)(tk:List TsD)(us:List UsD)(c:CmD):LgD:=(Classical.choose (JB n cl bw pe tk us c)).1
@[irreducible] def tskK(n:Aa)(cl:List Bool)(bw pe:List Int)(tk:List TsD)(us:List UsD)(c:CmD):Int:=(Classical.choose (JB n cl bw pe tk us c)).2.1
@[irreducible] def tskN(n:Aa)(cl:List Bool)(bw pe:List Int)(tk:List TsD)(us:List UsD)(c:CmD):Int:=(Classical.choose (JB n cl bw pe tk us c)).2.2
theorem tsk_v{n:Aa}{cl:List Bool}{bw pe:List Int}{tk:List TsD}{us:List UsD}{c:CmD}(hV:LgV n ⟨cl,bw,pe,tk,us⟩):LgV n (DP n cl bw pe tk us c):=by unfold DP;exact(UP (JB n cl bw pe tk us c) hV).1
theorem tsk_c(n:Aa)(cl:List Bool)(bw pe:List Int)(tk:List TsD)(us:List UsD)(c:CmD)(n1 n2 n3 n4 n5:Nat)(e1:n1=cl.length)(e2:n2=bw.length)(e3:n3=pe.length)(e4:n4=tk.length)(e5:n5=us.length)(hV:LgV n ⟨cl,bw,pe,tk,us⟩):CTX Vb 57 (Fl n1 n2 n3 n4 n5 cl bw pe tk us) [Ai n,.ptr 0 0 0,cmA c] (lgF (DP n cl bw pe tk us c)) (.agg [.int .i64 (tskK n cl bw pe tk us c),.int .i64 (tskN n cl bw pe tk us c)]):=by subst e1 e2 e3 e4 e5;unfold DP tskK tskN;exact(UP (JB n cl bw pe tk us c) hV).2
theorem IV(n:Aa)(cl:List Bool)(bw pe:List Int)(tk:List TsD)(us:List UsD)(c:CmD):∃p:LgD×Int×Int,LgV n ⟨cl,bw,pe,tk,us⟩->LgV n p.1/\CTX Vb 58 (lgH cl bw pe tk us) [.ptr 0 0 0,cmA c] (lgF p.1) (.agg [.int .i64 p.2.1,.int .i64 p.2.2]):=exQ fun hV=>G8 (by obtain⟨p,hp⟩:=can_ex cl bw pe tk us c hV;exact⟨p,can_ct cl bw pe tk us c _ hp⟩)
@[irreducible] def DM(n:Aa)(cl:List Bool)(bw pe:List Int)(tk:List TsD)(us:List UsD)(c:CmD):LgD:=(Classical.choose (IV n cl bw pe tk us c)).1
@[irreducible] def canK(n:Aa)(cl:List Bool)(bw pe:List Int)(tk:List TsD)(us:List UsD)(c:CmD):Int:=(Classical.choose (IV n cl bw pe tk us c)).2.1
@[irreducible] def canN(n:Aa)(cl:List Bool)(bw pe:List Int)(tk:List TsD)(us:List UsD)(c:CmD):Int:=(Classical.choose (IV n cl bw pe tk us c)).2.2
theorem can_v{n:Aa}{cl:List Bool}{bw pe:List Int}{tk:List TsD}{us:List UsD}{c:CmD}(hV:LgV n ⟨cl,bw,pe,tk,us⟩):LgV n (DM n cl bw pe tk us c):=by unfold DM;exact(UP (IV n cl bw pe tk us c) hV).1
theorem can_c(n:Aa)(cl:List Bool)(bw pe:List Int)(tk:List TsD)(us:List UsD)(c:CmD)(n1 n2 n3 n4 n5:Nat)(e1:n1=cl.length)(e2:n2=bw.length)(e3:n3=pe.length)(e4:n4=tk.length)(e5:n5=us.length)(hV:LgV n ⟨cl,bw,pe,tk,us⟩):CTX Vb 58 (Fl n1 n2 n3 n4 n5 cl bw pe tk us) [.ptr 0 0 0,cmA c] (lgF (DM n cl bw pe tk us c)) (.agg [.int .i64 (canK n cl bw pe tk us c),.int .i64 (canN n cl bw pe tk us c)]):=by subst e1 e2 e3 e4 e5;unfold DM canK canN;exact(UP (IV n cl bw pe tk us c) hV).2
theorem IT(n:Aa)(cl:List Bool)(bw pe:List Int)(tk:List TsD)(us:List UsD)(c:CmD):∃p:LgD×Int×Int,LgV n ⟨cl,bw,pe,tk,us⟩->LgV n p.1/\CTX Vb 59 (lgH cl bw pe tk us) [Ai n,.ptr 0 0 0,cmA c] (lgF p.1) (.agg [.int .i64 p.2.1,.int .i64 p.2.2]):=exQ fun hV=>G8 (by obtain⟨p,hp⟩:=shb_ex cl bw pe tk us c hV;exact⟨p,shb_ct n cl bw pe tk us c _ hp⟩)
@[irreducible] def Ea(n:Aa)(cl:List Bool)(bw pe:List Int)(tk:List TsD)(us:List UsD)(c:CmD):LgD:=(Classical.choose (IT n cl bw pe tk us c)).1
@[irreducible] def shbK(n:Aa)(cl:List Bool)(bw pe:List Int)(tk:List TsD)(us:List UsD)(c:CmD):Int:=(Classical.choose (IT n cl bw pe tk us c)).2.1
@[irreducible] def shbN(n:Aa)(cl:List Bool)(bw pe:List Int)(tk:List TsD)(us:List UsD)(c:CmD):Int:=(Classical.choose (IT n cl bw pe tk us c)).2.2
theorem shb_v{n:Aa}{cl:List Bool}{bw pe:List Int}{tk:List TsD}{us:List UsD}{c:CmD}(hV:LgV n ⟨cl,bw,pe,tk,us⟩):LgV n (Ea n cl bw pe tk us c):=by unfold Ea;exact(UP (IT n cl bw pe tk us c) hV).1
theorem shb_c(n:Aa)(cl:List Bool)(bw pe:List Int)(tk:List TsD)(us:List UsD)(c:CmD)(n1 n2 n3 n4 n5:Nat)(e1:n1=cl.length)(e2:n2=bw.length)(e3:n3=pe.length)(e4:n4=tk.length)(e5:n5=us.length)(hV:LgV n ⟨cl,bw,pe,tk,us⟩):CTX Vb 59 (Fl n1 n2 n3 n4 n5 cl bw pe tk us) [Ai n,.ptr 0 0 0,cmA c] (lgF (Ea n cl bw pe tk us c)) (.agg [.int .i64 (shbK n cl bw pe tk us c),.int .i64 (shbN n cl bw pe tk us c)]):=by subst e1 e2 e3 e4 e5;unfold Ea shbK shbN;exact(UP (IT n cl bw pe tk us c) hV).2
theorem Jn(n:Aa)(cl:List Bool)(bw pe:List Int)(tk:List TsD)(us:List UsD)(c:CmD):∃p:LgD×Int×Int,LgV n ⟨cl,bw,pe,tk,us⟩->LgV n p.1/\CTX Vb 60 (lgH cl bw pe tk us) [Ai n,.ptr 0 0 0,cmA c] (lgF p.1) (.agg [.int .i64 p.2.1,.int .i64 p.2.2]):=exQ fun hV=>op6_ex cl bw pe tk us c hV
@[irreducible] def DS(n:Aa)(cl:List Bool)(bw pe:List Int)(tk:List TsD)(us:List UsD)(c:CmD):LgD:=(Classical.choose (Jn n cl bw pe tk us c)).1
@[irreducible] def op6K(n:Aa)(cl:List Bool)(bw pe:List Int)(tk:List TsD)(us:List UsD)(c:CmD):Int:=(Classical.choose (Jn n cl bw pe tk us c)).2.1
@[irreducible] def op6N(n:Aa)(cl:List Bool)(bw pe:List Int)(tk:List TsD)(us:List UsD)(c:CmD):Int:=(Classical.choose (Jn n cl bw pe tk us c)).2.2
theorem op6_v{n:Aa}{cl:List Bool}{bw pe:List Int}{tk:List TsD}{us:List UsD}{c:CmD}(hV:LgV n ⟨cl,bw,pe,tk,us⟩):LgV n (DS n cl bw pe tk us c):=by unfold DS;exact(UP (Jn n cl bw pe tk us c) hV).1
theorem op6_c(n:Aa)(cl:List Bool)(bw pe:List Int)(tk:List TsD)(us:List UsD)(c:CmD)(n1 n2 n3 n4 n5:Nat)(e1:n1=cl.length)(e2:n2=bw.length)(e3:n3=pe.length)(e4:n4=tk.length)(e5:n5=us.length)(hV:LgV n ⟨cl,bw,pe,tk,us⟩):CTX Vb 60 (Fl n1 n2 n3 n4 n5 cl bw pe tk us) [Ai n,.ptr 0 0 0,cmA c] (lgF (DS n cl bw pe tk us c)) (.agg [.int .i64 (op6K n cl bw pe tk us c),.int .i64 (op6N n cl bw pe tk us c)]):=by subst e1 e2 e3 e4 e5;unfold DS op6K op6N;exact(UP (Jn n cl bw pe tk us c) hV).2
theorem JX(n:Aa)(cl:List Bool)(bw pe:List Int)(tk:List TsD)(us:List UsD)(c:CmD):∃p:LgD×Int×Int,LgV n ⟨cl,bw,pe,tk,us⟩->LgV n p.1/\CTX Vb 61 (lgH cl bw pe tk us) [Ai n,.ptr 0 0 0,cmA c] (lgF p.1) (.agg [.int .i64 p.2.1,.int .i64 p.2.2]):=exQ fun hV=>G8 (by obtain⟨p,hp⟩:=ad2_ex cl bw pe tk us c hV;exact⟨p,ad2_ct n cl bw pe tk us c _ hp⟩)
@[irreducible] def Dy(n:Aa)(cl:List Bool)(bw pe:List Int)(tk:List TsD)(us:List UsD)(c:CmD):LgD:=(Classical.choose (JX n cl bw pe tk us c)).1
@[irreducible] def ad2K(n:Aa)(cl:List Bool)(bw pe:List Int)(tk:List TsD)(us:List UsD)(c:CmD):Int:=(Classical.choose (JX n cl bw pe tk us c)).2.1
@[irreducible] def ad2N(n:Aa)(cl:List Bool)(bw pe:List Int)(tk:List TsD)(us:List UsD)(c:CmD):Int:=(Classical.choose (JX n cl bw pe tk us c)).2.2
theorem ad2_v{n:Aa}{cl:List Bool}{bw pe:List Int}{tk:List TsD}{us:List UsD}{c:CmD}(hV:LgV n ⟨cl,bw,pe,tk,us⟩):LgV n (Dy n cl bw pe tk us c):=by unfold Dy;exact(UP (JX n cl bw pe tk us c) hV).1
theorem ad2_c(n:Aa)(cl:List Bool)(bw pe:List Int)(tk:List TsD)(us:List UsD)(c:CmD)(n1 n2 n3 n4 n5:Nat)(e1:n1=cl.length)(e2:n2=bw.length)(e3:n3=pe.length)(e4:n4=tk.length)(e5:n5=us.length)(hV:LgV n ⟨cl,bw,pe,tk,us⟩):CTX Vb 61 (Fl n1 n2 n3 n4 n5 cl bw pe tk us) [Ai n,.ptr 0 0 0,cmA c] (lgF (Dy n cl bw pe tk us c)) (.agg [.int .i64 (ad2K n cl bw pe tk us c),.int .i64 (ad2N n cl bw pe tk us c)]):=by subst e1 e2 e3 e4 e5;unfold Dy ad2K ad2N;exact(UP (JX n cl bw pe tk us c) hV).2
theorem JV(n:Aa)(cl:List Bool)(bw pe:List Int)(tk:List TsD)(us:List UsD)(c:CmD):∃p:LgD×Int×Int,LgV n ⟨cl,bw,pe,tk,us⟩->LgV n p.1/\CTX Vb 62 (lgH cl bw pe tk us) [.ptr 0 0 0,cmA c] (lgF p.1) (.agg [.int .i64 p.2.1,.int .i64 p.2.2]):=exQ fun hV=>G8 (by obtain⟨p,hp⟩:=rem_ex cl bw pe tk us c hV;exact⟨p,rem_ct cl bw pe tk us c _ hp⟩)
@[irreducible] def DF(n:Aa)(cl:List Bool)(bw pe:List Int)(tk:List TsD)(us:List UsD)(c:CmD):LgD:=(Classical.choose (JV n cl bw pe tk us c)).1
@[irreducible] def remK(n:Aa)(cl:List Bool)(bw pe:List Int)(tk:List TsD)(us:List UsD)(c:CmD):Int:=(Classical.choose (JV n cl bw pe tk us c)).2.1
@[irreducible] def remN(n:Aa)(cl:List Bool)(bw pe:List Int)(tk:List TsD)(us:List UsD)(c:CmD):Int:=(Classical.choose (JV n cl bw pe tk us c)).2.2
theorem rem_v{n:Aa}{cl:List Bool}{bw pe:List Int}{tk:List TsD}{us:List UsD}{c:CmD}(hV:LgV n ⟨cl,bw,pe,tk,us⟩):LgV n (DF n cl bw pe tk us c):=by unfold DF;exact(UP (JV n cl bw pe tk us c) hV).1
theorem rem_c(n:Aa)(cl:List Bool)(bw pe:List Int)(tk:List TsD)(us:List UsD)(c:CmD)(n1 n2 n3 n4 n5:Nat)(e1:n1=cl.length)(e2:n2=bw.length)(e3:n3=pe.length)(e4:n4=tk.length)(e5:n5=us.length)(hV:LgV n ⟨cl,bw,pe,tk,us⟩):CTX Vb 62 (Fl n1 n2 n3 n4 n5 cl bw pe tk us) [.ptr 0 0 0,cmA c] (lgF (DF n cl bw pe tk us c)) (.agg [.int .i64 (remK n cl bw pe tk us c),.int .i64 (remN n cl bw pe tk us c)]):=by subst e1 e2 e3 e4 e5;unfold DF remK remN;exact(UP (JV n cl bw pe tk us c) hV).2
theorem I2(n:Aa)(cl:List Bool)(bw pe:List Int)(tk:List TsD)(us:List UsD)(c:CmD):∃p:LgD×Int×Int,LgV n ⟨cl,bw,pe,tk,us⟩->LgV n p.1/\CTX Vb 63 (lgH cl bw pe tk us) [Ai n,.ptr 0 0 0,cmA c] (lgF p.1) (.agg [.int .i64 p.2.1,.int .i64 p.2.2]):=exQ fun hV=>G8 (by obtain⟨p,hp⟩:=sta_ex cl bw pe tk us c hV;exact⟨p,sta_ct n cl bw pe tk us c _ hp⟩)
@[irreducible] def DD(n:Aa)(cl:List Bool)(bw pe:List Int)(tk:List TsD)(us:List UsD)(c:CmD):LgD:=(Classical.choose (I2 n cl bw pe tk us c)).1
@[irreducible] def staK(n:Aa)(cl:List Bool)(bw pe:List Int)(tk:List TsD)(us:List UsD)(c:CmD):Int:=(Classical.choose (I2 n cl bw pe tk us c)).2.1
@[irreducible] def staN(n:Aa)(cl:List Bool)(bw pe:List Int)(tk:List TsD)(us:List UsD)(c:CmD):Int:=(Classical.choose (I2 n cl bw pe tk us c)).2.2
theorem sta_v{n:Aa}{cl:List Bool}{bw pe:List Int}{tk:List TsD}{us:List UsD}{c:CmD}(hV:LgV n ⟨cl,bw,pe,tk,us⟩):LgV n (DD n cl bw pe tk us c):=by unfold DD;exact(UP (I2 n cl bw pe tk us c) hV).1
theorem sta_c(n:Aa)(cl:List Bool)(bw pe:List Int)(tk:List TsD)(us:List UsD)(c:CmD)(n1 n2 n3 n4 n5:Nat)(e1:n1=cl.length)(e2:n2=bw.length)(e3:n3=pe.length)(e4:n4=tk.length)(e5:n5=us.length)(hV:LgV n ⟨cl,bw,pe,tk,us⟩):CTX Vb 63 (Fl n1 n2 n3 n4 n5 cl bw pe tk us) [Ai n,.ptr 0 0 0,cmA c] (lgF (DD n cl bw pe tk us c)) (.agg [.int .i64 (staK n cl bw pe tk us c),.int .i64 (staN n cl bw pe tk us c)]):=by subst e1 e2 e3 e4 e5;unfold DD staK staN;exact(UP (I2 n cl bw pe tk us c) hV).2
theorem wo_neg1{l:List Int}(h:∀b∈l,0<=b):wo l (-1)=l:=wo_none fun hm=>by have:=h _ hm;omega
theorem cpy_c(cl:List Bool)(bw pe:List Int)(tk:List TsD)(us:List UsD)(h1:cl.length<=1000)(h2:bw.length<=1000)(h3:pe.length<=1000)(h4:tk.length<=1000)(h5:us.length<=1000)(hp:∀b∈pe,0<=b):CT Vb 55 [] [lgA ⟨cl,bw,pe,tk,us⟩] [some (Blk.mk (boL cl) 1 true true none),some (Blk.mk (bw.map (AV.int .i64)) 1 true true none),some (Blk.mk (pe.map (AV.int .i64)) 1 true true none),some (Blk.mk (tk.map tsA) 5 true true none),some (Blk.mk (us.map usA) 13 true true none)] (.agg [.sl 0 0 (boL cl).length,.sl 1 0 bw.length,.sl 2 0 pe.length,.sl 3 0 tk.length,.sl 4 0 us.length]):=by
 refine cpy_ct cl bw pe tk us ([_,_,_,_,_],_) ?_;have hw:=wo_neg1 hp;unfold Mo;rw[Ab (by omega),Ab (by omega),Ab (by omega),Ab (fun e he=>by obtain⟨x,_,rfl⟩:=UI.1 he;rfl),Ab (by rw[Ui];omega),Ab (by rw[Ui];omega)];have key:∀(d i:Nat),i+d=us.length->Ac (Rr cl bw pe tk us) (some (.inl (.l0 (i:Int) (us.take i)))) (([some (Blk.mk (boL cl) 1 true true none),some (Blk.mk (bw.map (AV.int .i64)) 1 true true none),some (Blk.mk (pe.map (AV.int .i64)) 1 true true none),some (Blk.mk (tk.map tsA) 5 true true none),some (Blk.mk (us.map usA) 13 true true none)],.agg [.sl 0 0 (boL cl).length,.sl 1 0 bw.length,.sl 2 0 pe.length,.sl 3 0 tk.length,.sl 4 0 us.length]):Ret):=by
  intro d;induction d with
  | zero=>
   intro i hi;obtain rfl:i=us.length:=by omega
   refine .to (show Gg cl bw pe tk us (us.length:Nat) _=_ from rfl) ?_;unfold Gg;rw[AO,List.take_length,hw];exact .ret _
  | succ d ih=>
   intro i hi;have hx:us[i]?=some us[i]:=Uf (by omega);have e:us.take (i+1)=us.take i++[us[i]]:=by rw[List.take_add_one,hx];rfl
   have:=ih (i+1) (by omega);rw[e] at this;have hl2:(U4 usA (us.take i)).length<=i:=by simp only[Ui,UF];omega
   refine .to (show Gg cl bw pe tk us (i:Nat) _=_ from rfl) ?_;unfold Gg;rw[AS hx,Ab (by simp only[UQ];omega),Ab (by simp only[UQ];omega),Bk i (by omega)];exact this
 exact key us.length 0 (by omega)
def Kx(n:Aa)(cl:List Bool)(bw pe:List Int)(tk:List TsD)(us:List UsD)(c:CmD):Option (Empty⊕Ret):=gu (cl.length<=1000) <|gu (bw.length<=1000) <|gu (pe.length<=1000) <|gu (tk.length<=1000) <|gu (us.length<=1000) <|gu (∀(b:Int),b∈pe->0<=b) <|br (c.k==1) (gu ((boL cl).length=cl.length) <|gu (LgV n (LgD.mk cl bw pe tk us)) <|some (.inr ([],AV.tup [AV.agg [Va (boL (DP n cl bw pe tk us c).cl),Va (U4 iV (DP n cl bw pe tk us c).bw),Va (U4 iV (DP n cl bw pe tk us c).pe),Va (U4 tsA (DP n cl bw pe tk us c).tk),Va (U4 usA (DP n cl bw pe tk us c).us)],AV.agg [iV (tskK n cl bw pe tk us c),iV (tskN n cl bw pe tk us c)]]))) (br (c.k==2) (gu ((boL cl).length=cl.length) <|gu (LgV n (LgD.mk cl bw pe tk us)) <|some (.inr ([],AV.tup [AV.agg [Va (boL (DM n cl bw pe tk us c).cl),Va (U4 iV (DM n cl bw pe tk us c).bw),Va (U4 iV (DM n cl bw pe tk us c).pe),Va (U4 tsA (DM n cl bw pe tk us c).tk),Va (U4 usA (DM n cl bw pe tk us c).us)],AV.agg [iV (canK n cl bw pe tk us c),iV (canN n cl bw pe tk us c)]]))) (br (c.k==3) (gu ((boL cl).length=cl.length) <|gu (LgV n (LgD.mk cl bw pe tk us)) <|some (.inr ([],AV.tup [AV.agg [Va (boL (Ea n cl bw pe tk us c).cl),Va (U4 iV (Ea n cl bw pe tk us c).bw),Va (U4 iV (Ea n cl bw pe tk us c).pe),Va (U4 tsA (Ea n cl bw pe tk us c).tk),Va (U4 usA (Ea n cl bw pe tk us c).us)],AV.agg [iV (shbK n cl bw pe tk us c),iV (shbN n cl bw pe tk us c)]]))) (br (c.k==4) (gu ((boL cl).length=cl.length) <|gu (LgV n (LgD.mk cl bw pe tk us)) <|some (.inr ([],AV.tup [AV.agg [Va (boL (DS n cl bw pe tk us c).cl),Va (U4 iV (DS n cl bw pe tk us c).bw),Va (U4 iV (DS n cl bw pe tk us c).pe),Va (U4 tsA (DS n cl bw pe tk us c).tk),Va (U4 usA (DS n cl bw pe tk us c).us)],AV.agg [iV (op6K n cl bw pe tk us c),iV (op6N n cl bw pe tk us c)]]))) (br (c.k==5) (gu ((boL cl).length=cl.length) <|gu (LgV n (LgD.mk cl bw pe tk us)) <|some (.inr ([],AV.tup [AV.agg [Va (boL (Dy n cl bw pe tk us c).cl),Va (U4 iV (Dy n cl bw pe tk us c).bw),Va (U4 iV (Dy n cl bw pe tk us c).pe),Va (U4 tsA (Dy n cl bw pe tk us c).tk),Va (U4 usA (Dy n cl bw pe tk us c).us)],AV.agg [iV (ad2K n cl bw pe tk us c),iV (ad2N n cl bw pe tk us c)]]))) (br (c.k==6) (gu ((boL cl).length=cl.length) <|gu (LgV n (LgD.mk cl bw pe tk us)) <|some (.inr ([],AV.tup [AV.agg [Va (boL (DF n cl bw pe tk us c).cl),Va (U4 iV (DF n cl bw pe tk us c).bw),Va (U4 iV (DF n cl bw pe tk us c).pe),Va (U4 tsA (DF n cl bw pe tk us c).tk),Va (U4 usA (DF n cl bw pe tk us c).us)],AV.agg [iV (remK n cl bw pe tk us c),iV (remN n cl bw pe tk us c)]]))) (br (c.k==7) (br (decide (0<=c.q)) (br (decide (c.q<iN tk.length)) (gu (0<=c.q) <|gu (c.q<iN tk.length) <|el (tk) (0+c.q.toNat) fun(x65:TsD)=>some (.inr ([],AV.tup [AV.agg [Va (boL cl),Va (U4 iV bw),Va (U4 iV pe),Va (U4 tsA tk),Va (U4 usA us)],AV.agg [iV 12,iV x65.s]]))) (some (.inr ([],AV.tup [AV.agg [Va (boL cl),Va (U4 iV bw),Va (U4 iV pe),Va (U4 tsA tk),Va (U4 usA us)],AV.agg [iV 3,iV 0]])))) (some (.inr ([],AV.tup [AV.agg [Va (boL cl),Va (U4 iV bw),Va (U4 iV pe),Va (U4 tsA tk),Va (U4 usA us)],AV.agg [iV 3,iV 0]])))) (br (c.k==8) (gu ((boL cl).length=cl.length) <|gu (LgV n (LgD.mk cl bw pe tk us)) <|some (.inr ([],AV.tup [AV.agg [Va (boL (DD n cl bw pe tk us c).cl),Va (U4 iV (DD n cl bw pe tk us c).bw),Va (U4 iV (DD n cl bw pe tk us c).pe),Va (U4 tsA (DD n cl bw pe tk us c).tk),Va (U4 usA (DD n cl bw pe tk us c).us)],AV.agg [iV (staK n cl bw pe tk us c),iV (staN n cl bw pe tk us c)]]))) (br (c.k==9) (gu (us.length<=1000000) <|some (.inr ([],AV.tup [AV.agg [Va (boL cl),Va (U4 iV bw),Va (U4 iV pe),Va (U4 tsA tk),Va (U4 usA us)],AV.agg [iV 12,iV (cnP us)]]))) (br (c.k==10) (gu (tk.length<=1000000) <|some (.inr ([],AV.tup [AV.agg [Va (boL cl),Va (U4 iV bw),Va (U4 iV pe),Va (U4 tsA tk),Va (U4 usA us)],AV.agg [iV 12,iV (tcZ tk)]]))) (some (.inr ([],AV.tup [AV.agg [Va (boL cl),Va (U4 iV bw),Va (U4 iV pe),Va (U4 tsA tk),Va (U4 usA us)],AV.agg [iV 0,iV 0]]))))))))))))
theorem do2_ct(n:Aa)(cl:List Bool)(bw pe:List Int)(tk:List TsD)(us:List UsD)(c:CmD)(r:Ret)(h:Ac emT (Kx n cl bw pe tk us c) r):CT Vb 22 ([]) ([Ai n,lgA ⟨cl,bw,pe,tk,us⟩,cmA c]) r.1 r.2:=
 CT.mach (fn:=Tryz.f22) (c:=zB Tryz.f22) (S:=emS) (hd:=emH) Tryz.func22 (by kernel_rfl) (nL rfl)
  (fun s o ho=>match s,ho with
   | x,_=>x.elim)
  (fun o ho=>Scr.ok (X:=Kx n cl bw pe tk us c) ho mix (
 .rn 0 [] [] [] [] (al (u2 (u2 (u2 t3)))) <|
 .gu fun a0=>
 .gu fun a1=>
 .gu fun a2=>
 .gu fun a3=>
 .gu fun a4=>
 .gu fun a5=>
 have c0:=cpy_c (cl) (bw) (pe) (tk) (us) a0 a1 a2 a3 a4 a5;
 have c1:=AQ (0);
 .rn 3 [] [] [(13,hK c0 [] []),(14,hK c1 [] [])] [] (aj (u2 (aj (ak (aj t6 (al (c0)))) (al (k2 (show Nat.le 1 [AV.agg [Va (boL cl),Va (U4 iv bw),Va (U4 iv pe),Va (U4 tsA tk),Va (U4 usA us)]].length from(nL rfl)))))) (aj (aj (ak (al (c1))) (ak (al (k2 n11)))) (aj (u2 s2) (al (u2 s2))))) <|
 .br (fun a6=>
 .gu fun a7=>
 .gu fun a8=>
 have c2:=tsk_c n (cl) (bw) (pe) (tk) (us) c ((boL cl).length) (bw.length) (pe.length) (tk.length) (us.length) a7 (show bw.length=bw.length from rfl) (show pe.length=pe.length from rfl) (show tk.length=tk.length from rfl) (show us.length=us.length from rfl) a8;
 .rt [35] [] [(21,hKO c2 [1,5,6,7,8,9] [])] [] [] [] (aj (aj a6 (aj (u2 (u2 (aj (k3 (aj t9 (ak (aj t5 (aj (al t6) (k5 (c2))))))) (al (k2 n11))))) (al (u2 (u2 (aj (k2 n11) (al (k2 n11)))))))) (al (aj t6 (al t3)))))
 (fun a6=>
 .rn 0 [34] [] [] [] (aj a6 (al (u2 s2))) <|
 .br (fun a7=>
  .gu fun a8=>
  .gu fun a9=>
  have c2:=can_c n (cl) (bw) (pe) (tk) (us) c ((boL cl).length) (bw.length) (pe.length) (tk.length) (us.length) a8 (show bw.length=bw.length from rfl) (show pe.length=pe.length from rfl) (show tk.length=tk.length from rfl) (show us.length=us.length from rfl) a9;
  .rt [45] [] [(25,hKO c2 [1,5,6,7,8,9] [])] [] [] [] (aj (aj a7 (aj (u2 (aj (k3 (aj t5 (aj (al t6) (k5 (c2))))) (al (k2 n11)))) (al (u2 (u2 (aj (k2 n11) (al (k2 n11)))))))) (al (aj t6 (al t3)))))
 (fun a7=>
  .rn 0 [44] [] [] [] (aj a7 (al (u2 s2))) <|
  .br (fun a8=>
  .gu fun a9=>
  .gu fun a10=>
  have c2:=shb_c n (cl) (bw) (pe) (tk) (us) c ((boL cl).length) (bw.length) (pe.length) (tk.length) (us.length) a9 (show bw.length=bw.length from rfl) (show pe.length=pe.length from rfl) (show tk.length=tk.length from rfl) (show us.length=us.length from rfl) a10;
  .rt [53] [] [(30,hKO c2 [1,5,6,7,8,9] [])] [] [] [] (aj (aj a8 (aj (u2 (u2 (aj (k3 (aj t9 (ak (aj t5 (aj (al t6) (k5 (c2))))))) (al (k2 n11))))) (al (u2 (u2 (aj (k2 n11) (al (k2 n11)))))))) (al (aj t6 (al t3)))))
  (fun a8=>
  .rn 0 [52] [] [] [] (aj a8 (al (u2 s2))) <|
  .br (fun a9=>
   .gu fun a10=>
   .gu fun a11=>
   have c2:=op6_c n (cl) (bw) (pe) (tk) (us) c ((boL cl).length) (bw.length) (pe.length) (tk.length) (us.length) a10 (show bw.length=bw.length from rfl) (show pe.length=pe.length from rfl) (show tk.length=tk.length from rfl) (show us.length=us.length from rfl) a11;
   .rt [63] [] [(35,hKO c2 [1,5,6,7,8,9] [])] [] [] [] (aj (aj a9 (aj (u2 (u2 (aj (k3 (aj t9 (ak (aj t5 (aj (al t6) (k5 (c2))))))) (al (k2 n11))))) (al (u2 (u2 (aj (k2 n11) (al (k2 n11)))))))) (al (aj t6 (al t3)))))
  (fun a9=>
   .rn 0 [62] [] [] [] (aj a9 (al (u2 s2))) <|
   .br (fun a10=>
   .gu fun a11=>
   .gu fun a12=>
   have c2:=ad2_c n (cl) (bw) (pe) (tk) (us) c ((boL cl).length) (bw.length) (pe.length) (tk.length) (us.length) a11 (show bw.length=bw.length from rfl) (show pe.length=pe.length from rfl) (show tk.length=tk.length from rfl) (show us.length=us.length from rfl) a12;
   .rt [73] [] [(40,hKO c2 [1,5,6,7,8,9] [])] [] [] [] (aj (aj a10 (aj (u2 (u2 (aj (k3 (aj t9 (ak (aj t5 (aj (al t6) (k5 (c2))))))) (al (k2 n11))))) (al (u2 (u2 (aj (k2 n11) (al (k2 n11)))))))) (al (aj t6 (al t3)))))
   (fun a10=>
   .rn 0 [72] [] [] [] (aj a10 (al (u2 s2))) <|
   .br (fun a11=>
    .gu fun a12=>
    .gu fun a13=>
    have c2:=rem_c n (cl) (bw) (pe) (tk) (us) c ((boL cl).length) (bw.length) (pe.length) (tk.length) (us.length) a12 (show bw.length=bw.length from rfl) (show pe.length=pe.length from rfl) (show tk.length=tk.length from rfl) (show us.length=us.length from rfl) a13;
    .rt [83] [] [(44,hKO c2 [1,5,6,7,8,9] [])] [] [] [] (aj (aj a11 (aj (u2 (aj (k3 (aj t5 (aj (al t6) (k5 (c2))))) (al (k2 n11)))) (al (u2 (u2 (aj (k2 n11) (al (k2 n11)))))))) (al (aj t6 (al t3)))))
   (fun a11=>
    .rn 0 [82] [] [] [] (aj a11 (al (u2 s2))) <|
    .br (fun a12=>
    have c2:=AQ (3);
    .rn 0 [91] [] [(47,hK c2 [] [])] [] (aj a12 (al (aj (ak (al (c2))) (al (k2 n11))))) <|
    .br (fun a13=>
     .rn 0 [103] [] [] [] (al (u2 (u2 (u2 (u2 (ag a13 (ag a13 (ag a13 (ag a13 (ag a13 (aj (aj a13 t3) (al (aj a13 t2))))))))))))) <|
     .br (fun a14=>
     .gu fun a15=>
     .gu fun a16=>
     .el fun x65 a17=>
     .rt [103,117] [(65,tsA x65)] [] [] [] [5,6,7,8,9] (aj (aj a14 (aj (u2 (u2 (u2 (u2 (aj (k2 (aj a15 a16)) (u2 (aj (ak (Af (f:=tsA) a17)) (u2 (al (k2 n11)))))))))) (al (u2 (u2 (aj (k2 n11) (al (k2 n11)))))))) (al (aj (aj (show(boL cl).length=(boL cl).length from rfl) (aj (show bw.length=(U4 iv bw).length by simp) (aj (show pe.length=(U4 iv pe).length by simp) (aj (show tk.length=(U4 tsA tk).length by simp) (al (show us.length=(U4 usA us).length by simp)))))) (al t3)))))
     (fun a14=>
     .rt [103,116] [] [] [] [] [5,6,7,8,9] (aj (aj a14 (al (u2 (u2 (aj (k2 n11) (al (k2 n11))))))) (al (aj (aj (show(boL cl).length=(boL cl).length from rfl) (aj (show bw.length=(U4 iv bw).length by simp) (aj (show pe.length=(U4 iv pe).length by simp) (aj (show tk.length=(U4 tsA tk).length by simp) (al (show us.length=(U4 usA us).length by simp)))))) (al t3))))))
    (fun a13=>
     .rt [102] [] [] [] [] [5,6,7,8,9] (aj (aj (u2 (u2 (u2 (u2 (aj a13 (aj a13 (aj a13 (aj a13 (aj a13 (aj a13 (al (aj a13 t2)))))))))))) (ak (al (u2 (u2 (aj (k2 n11) (al (k2 n11)))))))) (al (aj (aj (show(boL cl).length=(boL cl).length from rfl) (aj (show bw.length=(U4 iv bw).length by simp) (aj (show pe.length=(U4 iv pe).length by simp) (aj (show tk.length=(U4 tsA tk).length by simp) (al (show us.length=(U4 usA us).length by simp)))))) (al t3))))))
    (fun a12=>
    .rn 0 [90] [] [] [] (aj a12 (al (u2 s2))) <|
    .br (fun a13=>
     .gu fun a14=>
     .gu fun a15=>
     have c2:=sta_c n (cl) (bw) (pe) (tk) (us) c ((boL cl).length) (bw.length) (pe.length) (tk.length) (us.length) a14 (show bw.length=bw.length from rfl) (show pe.length=pe.length from rfl) (show tk.length=tk.length from rfl) (show us.length=us.length from rfl) a15;
     .rt [135] [] [(71,hKO c2 [1,5,6,7,8,9] [])] [] [] [] (aj (aj a13 (aj (u2 (u2 (aj (k3 (aj t9 (ak (aj t5 (aj (al t6) (k5 (c2))))))) (al (k2 n11))))) (al (u2 (u2 (aj (k2 n11) (al (k2 n11)))))))) (al (aj t6 (al t3)))))
    (fun a13=>
     .rn 0 [134] [] [] [] (aj a13 (al (u2 s2))) <|
     .br (fun a14=>
     .gu fun a15=>
     have c2:=JQ (us) a15;
     .rt [145] [] [(77,hK c2 [] [9])] [] [] [5,6,7,8,9] (aj (aj a14 (aj (u2 (u2 (aj (ak (aj (show us.length=(U4 usA us).length by simp) (aj (c2) (show ∀(blk:Blk),blk∈[]->A5 blk from(by intro _ h;cases h))))) (u2 (u2 (u2 (u2 (u2 (u2 s2))))))))) (aj (u2 (u2 (al (k2 n11)))) (al (u2 (u2 (aj (k2 n11) (al (k2 n11))))))))) (al (aj (aj (show(boL cl).length=(boL cl).length from rfl) (aj (show bw.length=(U4 iv bw).length by simp) (aj (show pe.length=(U4 iv pe).length by simp) (aj (show tk.length=(U4 tsA tk).length by simp) (al (show us.length=(U4 usA us).length by simp)))))) (al t3)))))
     (fun a14=>
     .rn 0 [144] [] [] [] (aj a14 (al (u2 s2))) <|
     .br (fun a15=>
      .gu fun a16=>
      have c2:=Oy (tk) a16;
      .rt [167] [] [(87,hK c2 [] [8])] [] [] [5,6,7,8,9] (aj (aj a15 (aj (u2 (u2 (aj (ak (aj (show tk.length=(U4 tsA tk).length by simp) (aj (c2) (show ∀(blk:Blk),blk∈[]->A5 blk from(by intro _ h;cases h))))) (u2 (al (k2 n11)))))) (al (u2 (u2 (aj (k2 n11) (al (k2 n11)))))))) (al (aj (aj (show(boL cl).length=(boL cl).length from rfl) (aj (show bw.length=(U4 iv bw).length by simp) (aj (show pe.length=(U4 iv pe).length by simp) (aj (show tk.length=(U4 tsA tk).length by simp) (al (show us.length=(U4 usA us).length by simp)))))) (al t3)))))
     (fun a15=>
      .rt [166] [] [] [] [] [5,6,7,8,9] (aj (aj a15 (al (u2 (u2 (aj (k2 n11) (al (k2 n11))))))) (al (aj (aj (show(boL cl).length=(boL cl).length from rfl) (aj (show bw.length=(U4 iv bw).length by simp) (aj (show pe.length=(U4 iv pe).length by simp) (aj (show tk.length=(U4 tsA tk).length by simp) (al (show us.length=(U4 usA us).length by simp)))))) (al t3))))))))))))))) (by kernel_rfl)) h
def enA(q a b w:Int):AV:=.agg [.int .i64 q,.int .i64 a,.int .i64 b,.int .i64 w]
inductive Fi where | l0 (v0:Int) | l1 (v0:Int)
def va6St(n:Aa)(cl:List Bool)(bw pe:List Int)(tk:List TsD)(us:List UsD):Fi->St | .l0 v0=>St.mk 128 [(2,AV.ptr 0 0 0),(3,AV.ptr 1 0 0),(5,iv v0)] [some (bK [Ai n] 8),some (bK [AV.agg [Va (boL cl),Va (U4 iv bw),Va (U4 iv pe),Va (U4 tsA tk),Va (U4 usA us)]] 5)] | .l1 v0=>St.mk 128 [(2,AV.ptr 0 0 0),(3,AV.ptr 1 0 0),(7,iv v0)] [some (bK [Ai n] 8),some (bK [AV.agg [Va (boL cl),Va (U4 iv bw),Va (U4 iv pe),Va (U4 tsA tk),Va (U4 usA us)]] 5)]
def Lq(n:Aa)(cl:List Bool)(bw pe:List Int)(tk:List TsD)(us:List UsD):Option (Fi⊕Ret):=gu (RwV n) <|br (!BC n (Aj.mk cl bw pe)) (some (.inr ([],bV false))) (br (!tvB tk) (some (.inr ([],bV false))) (br (decide (8<iN (U4 usA us).length)) (some (.inr ([],bV false))) (some (.inl (.l0 ((0:Int)))))))
def Gt(n:Aa)(cl:List Bool)(bw pe:List Int)(tk:List TsD)(us:List UsD)(v0:Int):Option (Fi⊕Ret):=br (decide (v0<iN (U4 tsA tk).length)) (gu (0<=v0) <|el (tk) (v0.toNat) fun(x36:TsD)=>br (decide (x36.p<0)) (some (.inr ([],bV false))) (br (decide (iN (U4 sA n.ss).length<=x36.p)) (some (.inr ([],bV false))) (br (decide (x36.d<0)) (some (.inr ([],bV false))) (br (decide (iN (U4 sA n.ss).length<=x36.d)) (some (.inr ([],bV false))) (gu (0<=x36.p) <|el (n.ss) (x36.p.toNat) fun(x67:Av)=>br (x67.dep) (some (.inr ([],bV false))) (gu (0<=x36.d) <|el (n.ss) (x36.d.toNat) fun(x76:Av)=>br (x76.dep) (some (.inr ([],bV false))) (some (.inl (.l0 (i64.wrap (v0+1))))))))))) (some (.inl (.l1 ((0:Int)))))
def Hm(n:Aa)(cl:List Bool)(bw pe:List Int)(tk:List TsD)(us:List UsD)(v0:Int):Option (Fi⊕Ret):=br (decide (v0<iN (U4 usA us).length)) (gu (0<=v0) <|el (us) (v0.toNat) fun(x90:UsD)=>br (decide (x90.s<0)) (some (.inr ([],bV false))) (br (decide (3<x90.s)) (some (.inr ([],bV false))) (br (decide (x90.hm < -2)) (some (.inr ([],bV false))) (br (decide (iN (U4 sA n.ss).length<=x90.hm)) (some (.inr ([],bV false))) (br (decide (0<=x90.hm)) (gu (0<=x90.hm) <|el (n.ss) (x90.hm.toNat) fun(x122:Av)=>br (!x122.dep) (some (.inr ([],bV false))) (some (.inl (.l1 (i64.wrap (v0+1)))))) (some (.inl (.l1 (i64.wrap (v0+1)))))))))) (some (.inr ([],bV true)))
def CV(n:Aa)(cl:List Bool)(bw pe:List Int)(tk:List TsD)(us:List UsD):Fi->Option (Fi⊕Ret) | .l0 v0=>Gt n cl bw pe tk us v0 | .l1 v0=>Hm n cl bw pe tk us v0
theorem va6_ct(n:Aa)(cl:List Bool)(bw pe:List Int)(tk:List TsD)(us:List UsD)(r:Ret)(h:Ac (CV n cl bw pe tk us) (Lq n cl bw pe tk us) r):CT Vb 66 ([]) ([Ai n,lgA ⟨cl,bw,pe,tk,us⟩]) r.1 r.2:=
 CT.mach (fn:=Tryz.f66) (c:=zB Tryz.f66) (S:=(va6St n cl bw pe tk us)) (hd:=Fi.ctorIdx) Tryz.func66 (by kernel_rfl) (nL rfl)
  (fun s o ho=>match s,ho with
 | .l0 v0,ho=>Scr.ok (X:=Gt n cl bw pe tk us v0) ho mix (
 .rn 0 [] [] [] [] (al (u2 (u2 (u2 (u2 (al t3)))))) <|
 .br (fun a0=>
 .gu fun a1=>
 .el fun x36 a2=>
 .rn 0 [61] [(36,tsA x36)] [] [] (aj a0 (al (u2 (u2 (u2 (aj (k2 (aj a1 (Af (f:=tsA) a2))) (u2 (ak (al (k2 n11)))))))))) <|
 .br (fun a3=>
  .rt [83] [] [] [] [] [] (aj (aj (u2 (u2 (u2 (u2 (aj a3 (aj a3 (aj a3 (aj a3 (aj a3 (aj a3 (ag a3 (u2 (k3 (aj t3 (u2 (ak (k5 (aj t3 (u2 (k2 (k5 (aj t3 (u2 (k2 (k5 (al t3)))))))))))))))))))))))))) (ak s2)) t2))
 (fun a3=>
  .br (fun a4=>
  .rt [82,99] [] [] [] [] [] (aj (aj (u2 (u2 (u2 (u2 (ag a3 (ag a3 (ag a3 (ag a3 (ag a3 (aj (aj a3 t3) (ag a3 (u2 (aj a4 (aj a4 (aj a4 (ag a4 (u2 (ak (k5 (aj t3 (u2 (k2 (k5 (aj t3 (u2 (k2 (k5 (al t3)))))))))))))))))))))))))))) (ak s2)) t2))
  (fun a4=>
  .br (fun a5=>
   .rt [82,98,109] [] [] [] [] [] (aj (aj (u2 (u2 (u2 (u2 (ag a3 (ag a3 (ag a3 (ag a3 (ag a3 (aj (aj a3 t3) (ag a3 (u2 (ag a4 (ag a4 (ag a4 (ag a4 (u2 (aj a5 (aj a5 (aj a5 (aj a5 (aj a5 (aj a5 (ag a5 (u2 (k2 (k5 (aj t3 (u2 (k2 (k5 (al t3)))))))))))))))))))))))))))))))) (ak s2)) t2))
  (fun a5=>
   .br (fun a6=>
   .rt [82,98,108,125] [] [] [] [] [] (aj (aj (u2 (u2 (u2 (u2 (ag a3 (ag a3 (ag a3 (ag a3 (ag a3 (aj (aj a3 t3) (ag a3 (u2 (ag a4 (ag a4 (ag a4 (ag a4 (u2 (ag a5 (ag a5 (ag a5 (ag a5 (ag a5 (aj (aj a5 t3) (ag a5 (u2 (aj a6 (aj a6 (aj a6 (aj a6 (aj a6 (aj a6 (aj a6 (ag a6 (u2 (k2 (k5 (al t3))))))))))))))))))))))))))))))))))))) (ak s2)) t2))
   (fun a6=>
   .gu fun a7=>
   .el fun x67 a8=>
   .br (fun a9=>
    .rt [82,98,108,124,143] [(67,sA x67)] [] [] [] [] (aj (aj (u2 (u2 (u2 (u2 (ag a3 (ag a3 (ag a3 (ag a3 (ag a3 (aj (aj a3 t3) (ag a3 (u2 (ag a4 (ag a4 (ag a4 (ag a4 (u2 (ag a5 (ag a5 (ag a5 (ag a5 (ag a5 (aj (aj a5 t3) (ag a5 (u2 (ag a6 (ag a6 (ag a6 (ag a6 (aj (aj a6 (k2 (aj a7 (Af (f:=sA) a8)))) (ag a6 (ag a6 (ag a6 (u2 (aj a9 (aj a9 (aj a9 (aj a9 (aj a9 (aj a9 (aj a9 (al (aj a9 t2))))))))))))))))))))))))))))))))))))))))))) (ak s2)) t2))
   (fun a9=>
    .gu fun a10=>
    .el fun x76 a11=>
    .rn 0 [82,98,108,124,142] [(67,sA x67),(76,sA x76)] [] [] (al (u2 (u2 (u2 (u2 (ag a3 (ag a3 (ag a3 (ag a3 (ag a3 (aj (aj a3 t3) (ag a3 (u2 (ag a4 (ag a4 (ag a4 (ag a4 (u2 (ag a5 (ag a5 (ag a5 (ag a5 (ag a5 (aj (aj a5 t3) (ag a5 (u2 (ag a6 (ag a6 (ag a6 (ag a6 (aj (aj a6 (k2 (aj a7 (Af (f:=sA) a8)))) (ag a6 (ag a6 (ag a6 (u2 (ag a9 (ag a9 (ag a9 (ag a9 (aj (aj a9 (k2 (aj a10 (Af (f:=sA) a11)))) (ag a9 (ag a9 (al (aj a9 t2)))))))))))))))))))))))))))))))))))))))))))) <|
    .br (fun a12=>
    .rt [82,98,108,124,142,159] [] [] [] [] [] (aj (aj a12 s2) t2))
    (fun a12=>
    .lp [82,98,108,124,142,158] [] [] [] [] [0,1] [2,3,5] (aj (aj a12 (al (u2 (u2 s2)))) t6))))))))
 (fun a0=>
 .lp [60] [] [] [] [] [0,1] [2,3,7] (aj (aj a0 s2) t6))) (by kernel_rfl)
 | .l1 v0,ho=>Scr.ok (X:=Hm n cl bw pe tk us v0) ho mix (
 .rn 0 [] [] [] [] (al (u2 (u2 (u2 (u2 (al t3)))))) <|
 .br (fun a0=>
 .gu fun a1=>
 .el fun x90 a2=>
 .rn 0 [169] [(90,usA x90)] [] [] (aj a0 (al (u2 (u2 (u2 (aj (k2 (aj a1 (Af (f:=usA) a2))) (u2 (ak (al (k2 n11)))))))))) <|
 .br (fun a3=>
  .rt [191] [] [] [] [] [] (aj (aj (u2 (u2 (u2 (u2 (aj a3 (aj a3 (aj a3 (ag a3 (u2 (k3 (aj t3 (u2 (ak (k5 (aj t3 (u2 (k3 (k5 (k5 (al t3)))))))))))))))))))) (ak s2)) t2))
 (fun a3=>
  .br (fun a4=>
  .rt [190,201] [] [] [] [] [] (aj (aj (u2 (u2 (u2 (u2 (ag a3 (ag a3 (ag a3 (ag a3 (u2 (aj a4 (aj a4 (aj a4 (ag a4 (u2 (ak (k5 (aj t3 (u2 (k3 (k5 (k5 (al t3)))))))))))))))))))))) (ak s2)) t2))
  (fun a4=>
  .br (fun a5=>
   .rt [190,200,211] [] [] [] [] [] (aj (aj (u2 (u2 (u2 (u2 (ag a3 (ag a3 (ag a3 (ag a3 (u2 (ag a4 (ag a4 (ag a4 (ag a4 (u2 (aj a5 (aj a5 (aj a5 (aj a5 (aj a5 (aj a5 (ag a5 (u2 (k3 (k5 (k5 (al t3)))))))))))))))))))))))))) (ak s2)) t2))
  (fun a5=>
   .br (fun a6=>
   .rt [190,200,210,227] [] [] [] [] [] (aj (aj (u2 (u2 (u2 (u2 (ag a3 (ag a3 (ag a3 (ag a3 (u2 (ag a4 (ag a4 (ag a4 (ag a4 (u2 (ag a5 (ag a5 (ag a5 (ag a5 (ag a5 (aj (aj a5 t3) (ag a5 (u2 (aj a6 (aj a6 (aj a6 (aj a6 (k3 (k5 (aj a6 (al (aj a6 t2))))))))))))))))))))))))))))))) (ak s2)) t2))
   (fun a6=>
   .br (fun a7=>
    .gu fun a8=>
    .el fun x122 a9=>
    .rn 0 [190,200,210,226,235] [(122,sA x122)] [] [] (al (u2 (u2 (u2 (u2 (ag a3 (ag a3 (ag a3 (ag a3 (u2 (ag a4 (ag a4 (ag a4 (ag a4 (u2 (ag a5 (ag a5 (ag a5 (ag a5 (ag a5 (aj (aj a5 t3) (ag a5 (u2 (ag a6 (ag a6 (ag a6 (ag a6 (ag a7 (ag a7 (ag a7 (ag a7 (aj (aj a7 (k2 (aj a8 (Af (f:=sA) a9)))) (ag a7 (ag a7 (ag a7 (aj (aj a6 (aj a7 t2)) (al (aj a6 t2)))))))))))))))))))))))))))))))))))))) <|
    .br (fun a10=>
    .rt [190,200,210,226,235,255] [] [] [] [] [] (aj (aj a10 s2) t2))
    (fun a10=>
    .lp [190,200,210,226,235,254] [] [] [] [] [0,1] [2,3,7] (aj (aj a10 (al (u2 (u2 s2)))) t6)))
   (fun a7=>
    .lp [190,200,210,226,234] [] [] [] [] [0,1] [2,3,7] (aj (aj (u2 (u2 (u2 (u2 (ag a3 (ag a3 (ag a3 (ag a3 (u2 (ag a4 (ag a4 (ag a4 (ag a4 (u2 (ag a5 (ag a5 (ag a5 (ag a5 (ag a5 (aj (aj a5 t3) (ag a5 (u2 (ag a6 (ag a6 (ag a6 (ag a6 (aj a7 (aj a7 (aj a7 (aj a7 (aj a7 (aj a7 (aj a7 (aj a7 (aj (aj a6 (aj a7 t2)) (al (aj a6 t2))))))))))))))))))))))))))))))))))))) (ak (al (u2 (u2 s2))))) t6)))))))
 (fun a0=>
 .rt [168] [] [] [] [] [] (aj (aj a0 s2) t2))) (by kernel_rfl)
  )
  (fun o ho=>Scr.ok (X:=Lq n cl bw pe tk us) ho mix (
 .rn 0 [] [] [] [] (al (u2 (u2 t2))) <|
 .gu fun a0=>
 .br (fun a1=>
 have c0:=Oc (cl) (bw) (pe) a0;
 .rt [29] [] [(12,hK c0 [] [])] [] [] [] (aj (aj (u2 (u2 (u2 (aj (k2 (aj t9 (aj t4 (al (c0))))) (u2 (u2 (aj a1 (aj a1 (aj a1 (aj a1 (ag a1 (u2 (ak (k3 (al t3))))))))))))))) (ak s2)) t2))
 (fun a1=>
 .br (fun a2=>
  have c0:=Oc (cl) (bw) (pe) a0;
  have c1:=tvl_c (tk);
  .rt [28,41] [] [(12,hK c0 [] []),(17,hK c1 [] [])] [] [] [] (aj (aj (u2 (u2 (u2 (aj (k2 (aj t9 (aj t4 (al (c0))))) (u2 (u2 (ag a1 (ag a1 (aj (aj a1 (k2 (al (c1)))) (ag a1 (ag a1 (u2 (aj a2 (aj a2 (aj a2 (aj a2 (al (aj a2 t2)))))))))))))))))) (ak s2)) t2))
 (fun a2=>
  have c0:=Oc (cl) (bw) (pe) a0;
  have c1:=tvl_c (tk);
  .rn 0 [28,40] [] [(12,hK c0 [] []),(17,hK c1 [] [])] [] (al (u2 (u2 (u2 (aj (k2 (aj t9 (aj t4 (al (c0))))) (u2 (u2 (ag a1 (ag a1 (aj (aj a1 (k2 (al (c1)))) (ag a1 (ag a1 (u2 (ag a2 (ag a2 (ag a2 (ag a2 (al (aj a2 t2))))))))))))))))))) <|
  .br (fun a3=>
  .rt [28,40,51] [] [] [] [] [] (aj (aj a3 s2) t2))
  (fun a3=>
  .lp [28,40,50] [] [] [] [] [0,1] [2,3,5] (aj (aj a3 s2) t6))))) (by kernel_rfl)) h
def Me(q:Aj)(c d:Int):Option (Empty⊕Ret):=gu (q.cl.length<=1000000) <|gu (q.bw.length<=1000000) <|gu (q.pe.length<=1000000) <|gu (0<=c) <|gu (c<iN (boL q.cl).length) <|el (q.cl) (0+c.toNat) fun(x14:Bool)=>br (!x14) (gu ((0+c.toNat).succ.le (boL q.cl).length) <|gu (c<iN q.bw.length) <|gu ((0+c.toNat).succ.le (U4 iV q.bw).length) <|some (.inr ([some (bK ((boL q.cl).set (0+c.toNat) (bV true)) 1),some (bK ((U4 iV q.bw).set (0+c.toNat) (iV d)) 1),some (bK (U4 iV (wo q.pe c)) 1)],AV.agg [AV.sl 0 0 (boL q.cl).length,AV.sl 1 0 q.bw.length,AV.sl 2 0 (wo q.pe c).length]))) (some (.inr ([some (bK (boL q.cl) 1),some (bK (U4 iV q.bw) 1),some (bK (U4 iV (wo q.pe c)) 1)],AV.agg [AV.sl 0 0 (boL q.cl).length,AV.sl 1 0 q.bw.length,AV.sl 2 0 (wo q.pe c).length])))
theorem rsK_ct(q:Aj)(c d:Int)(r:Ret)(h:Ac emT (Me q c d) r):CT Vb 68 ([]) ([sgA q,.int .i64 c,.int .i64 d]) r.1 r.2:=
 CT.mach (fn:=Tryz.f68) (c:=zB Tryz.f68) (S:=emS) (hd:=emH) Tryz.func68 (by kernel_rfl) (nL rfl)
  (fun s o ho=>match s,ho with
   | x,_=>x.elim)
  (fun o ho=>Scr.ok (X:=Me q c d) ho mix (
 .rn 0 [] [] [] [] (al (u2 t2)) <|
 .gu fun a0=>
 .gu fun a1=>
 .gu fun a2=>
 have c0:=MV (q.cl) (q.bw) (q.pe) c a0 a1 a2;
 .rn 0 [] [] [(9,hK c0 [] [])] [] (al (u2 (u2 (aj (k2 (aj t4 (ak (al (c0))))) (al (k2 (show Nat.le 1 [AV.agg [Va (boL q.cl),Va (U4 iv q.bw),Va (U4 iv q.pe)]].length from(nL rfl)))))))) <|
 .gu fun a3=>
 .gu fun a4=>
 .el fun x14 a5=>
 .rn 0 [] [(14,bV x14)] [] [] (al (u2 (u2 (u2 (aj (k2 (aj a3 a4)) (aj (ak (Af (f:=bV) a5)) s2)))))) <|
 .br (fun a6=>
 .gu fun a7=>
 .gu fun a8=>
 .gu fun a9=>
 .rt [31] [] [] [] [2,3,4] [] (aj (aj a6 (aj (u2 (u2 (u2 (u2 (u2 (u2 (u2 (aj (k2 (aj a3 a4)) (aj (ak a7) (aj (k2 (aj a3 a8)) (al (k2 a9)))))))))))) (al (u2 (al (k2 n11)))))) (aj t4 t4)))
 (fun a6=>
 .rt [30] [] [] [] [2,3,4] [] (aj (aj a6 (al (u2 (al (k2 n11))))) (aj t4 t4)))) (by kernel_rfl)) h
theorem VR_wka{φ:Phi}{A:Nat->Prop}{w:World}{cs:List AV}{v:Value}(h:VR φ A w (.agg cs) v):VR φ A w (.agg (cs.map wk1)) v:=by
 cases h with
 | imm _ _ h=>
  cases h with
  | agg _ vs hl h=>
   refine .agg _ vs (by simpa using hl) fun i c v hc hv=>?_
   rw[Up] at hc;obtain⟨c',hc',rfl⟩:=Option.map_eq_some_iff.1 hc;exact(VR.imm _ _ (h i c' v hc' hv)).wk1
 | agg _ vs hl h=>
  refine .agg _ vs (by simpa using hl) fun i c v hc hv=>?_
  rw[Up] at hc;obtain⟨c',hc',rfl⟩:=Option.map_eq_some_iff.1 hc;exact(h i c' v hc' hv).wk1
theorem CT.wkT{f:FuncId}{hin hout:List (Option Blk)}{args cs:List AV}{x:AV}(h:CT Vb f hin args hout (.tup [.agg cs,x])):CT Vb f hin args hout (.tup [.agg (cs.map wk1),x]):=h.less fun φ A w v hv=>by
 obtain⟨vs,rfl,hn,hh⟩:=hv.tup_inv;refine .tup _ _ (by simpa using hn) fun i c u hc hu=>?_
 match i,hc with
 | 0,hc=>cases hc;exact VR_wka (hh 0 _ u rfl hu)
 | 1,hc=>cases hc;exact hh 1 _ u rfl hu
 | j+2,hc=>cases hc
theorem rsK_c(cl:List Bool)(bw pe:List Int)(c d:Int)(h1:cl.length<=1000000)(h2:bw.length<=1000000)(h3:pe.length<=1000000)(hc:0<=c)(hc1:c<(cl.length:Int))(hc2:c<(bw.length:Int)):
  CT Vb 68 [] [sgA ⟨cl,bw,pe⟩,.int .i64 c,.int .i64 d] [some (Blk.mk (boL (clS ⟨cl,bw,pe⟩ c d).cl) 1 true true none),some (Blk.mk ((clS ⟨cl,bw,pe⟩ c d).bw.map (AV.int .i64)) 1 true true none),some (Blk.mk ((clS ⟨cl,bw,pe⟩ c d).pe.map (AV.int .i64)) 1 true true none)] (.agg [.sl 0 0 (boL (clS ⟨cl,bw,pe⟩ c d).cl).length,.sl 1 0 (clS ⟨cl,bw,pe⟩ c d).bw.length,.sl 2 0 (clS ⟨cl,bw,pe⟩ c d).pe.length]):=by
 refine rsK_ct ⟨cl,bw,pe⟩ c d ([_,_,_],_) (.val ?_);have hL:=A9 cl;unfold Me;simp only;rw[Ab h1,Ab h2,Ab h3,Ab hc,Ab (by simp only[iN];omega),Uu,Ak (Ax true (show c.toNat<cl.length by omega))];unfold clS;simp only;cases h:cl.getD c.toNat true with
 | false=>rw[Ag (by rfl),Ab (show Nat.le _ _ from(show c.toNat+1<=_ by omega)),Ab hc2,Ab (show Nat.le _ _ from(by rw[Ui];show c.toNat+1<=_;omega)),Ue (by simp)];unfold boL;rw[U0,U0,UL,UL]
 | true=>rw[Ad (by rfl),Ud rfl,set_same h (by omega)]
def doR{n:Aa}(p:LgP n):Ret:=([],.tup [lgA p.1.1,.agg [.int .i64 p.1.2.1,.int .i64 p.1.2.2]])
theorem Cq{n:Aa}{σ:Type}{step:σ->Option (σ⊕Ret)}{x:LgD}(hV:LgV n x){a b:Int}{r:Ret}(h:r=([],.tup [lgA x,.agg [.int .i64 a,.int .i64 b]])):∃p:LgP n,Ac step (some (.inr r)) (doR p):=⟨⟨(x,a,b),hV⟩,by rw[h];exact .ret _⟩
theorem do2_ex{n:Aa}(cl:List Bool)(bw pe:List Int)(tk:List TsD)(us:List UsD)(c:CmD)(hV:LgV n ⟨cl,bw,pe,tk,us⟩):∃p:LgP n,Ac emT (Kx n cl bw pe tk us c) (doR p):=by
 have hb:=hV.bd;have hp:=hV.pb;have hu:=hV.ul;have ht:=hV.tl;simp only at hb hp hu ht;have hL:=A9 cl;unfold Kx;refine Ah (by omega) (Ah (by omega) (Ah (by omega) (Ah (by omega) (Ah (by omega) (Ah (fun b h=>(hp b h).1) ?_)))));refine Am (fun _=>Ah hL (Ah hV (Cq (tsk_v hV) rfl))) fun _=>Am (fun _=>Ah hL (Ah hV (Cq (can_v hV) rfl))) fun _=>Am (fun _=>Ah hL (Ah hV (Cq (shb_v hV) rfl))) fun _=>Am (fun _=>Ah hL (Ah hV (Cq (op6_v hV) rfl))) fun _=>Am (fun _=>Ah hL (Ah hV (Cq (ad2_v hV) rfl))) fun _=>Am (fun _=>Ah hL (Ah hV (Cq (rem_v hV) rfl))) fun _=>Am (fun _=>?_) fun _=>Am (fun _=>Ah hL (Ah hV (Cq (sta_v hV) rfl))) fun _=>Am (fun _=>Ah (by omega) (Cq hV rfl)) fun _=>Am (fun _=>Ah (by omega) (Cq hV rfl)) fun _=>Cq hV rfl
 refine Am (fun h0=>Am (fun h1=>?_) fun _=>Cq hV rfl) fun _=>Cq hV rfl
 have h0:=of_decide_eq_true h0;have h1:=of_decide_eq_true h1;simp only[iN] at h1;exact Ah h0 (Ah (by simp only[iN];omega) (AZ (by omega) fun x hx=>Cq hV rfl))
theorem JH(n:Aa)(cl:List Bool)(bw pe:List Int)(tk:List TsD)(us:List UsD)(c:CmD):∃p:LgD×Int×Int,LgV n ⟨cl,bw,pe,tk,us⟩->LgV n p.1/\CT Vb 22 [] [Ai n,lgA ⟨cl,bw,pe,tk,us⟩,cmA c] [] (.tup [lgA p.1,.agg [.int .i64 p.2.1,.int .i64 p.2.2]]):=by
 by_cases hV:LgV n ⟨cl,bw,pe,tk,us⟩
 .obtain⟨p,hp⟩:=do2_ex cl bw pe tk us c hV;exact⟨p.1,fun _=>⟨p.2,do2_ct n cl bw pe tk us c _ hp⟩⟩
 .exact⟨(⟨cl,bw,pe,tk,us⟩,0,0),fun q=>absurd q hV⟩
@[irreducible] def doL(n:Aa)(cl:List Bool)(bw pe:List Int)(tk:List TsD)(us:List UsD)(c:CmD):LgD:=(Classical.choose (JH n cl bw pe tk us c)).1
@[irreducible] def doK(n:Aa)(cl:List Bool)(bw pe:List Int)(tk:List TsD)(us:List UsD)(c:CmD):Int:=(Classical.choose (JH n cl bw pe tk us c)).2.1
@[irreducible] def doN(n:Aa)(cl:List Bool)(bw pe:List Int)(tk:List TsD)(us:List UsD)(c:CmD):Int:=(Classical.choose (JH n cl bw pe tk us c)).2.2
theorem do_v{n:Aa}{cl:List Bool}{bw pe:List Int}{tk:List TsD}{us:List UsD}{c:CmD}(hV:LgV n ⟨cl,bw,pe,tk,us⟩):LgV n (doL n cl bw pe tk us c):=by unfold doL;exact(UP (JH n cl bw pe tk us c) hV).1
theorem do_c(n:Aa)(cl:List Bool)(bw pe:List Int)(tk:List TsD)(us:List UsD)(c:CmD)(hV:LgV n ⟨cl,bw,pe,tk,us⟩):CT Vb 22 [] [Ai n,lgA ⟨cl,bw,pe,tk,us⟩,cmA c] [] (.tup [lgA (doL n cl bw pe tk us c),.agg [.int .i64 (doK n cl bw pe tk us c),.int .i64 (doN n cl bw pe tk us c)]]):=by unfold doL doK doN;exact(UP (JH n cl bw pe tk us c) hV).2
def IA(b:Bool):Ret:=([],.bool b)
theorem va6_l1{n:Aa}(cl:List Bool)(bw pe:List Int)(tk:List TsD)(us:List UsD)(hu:us.length<=8):∀(d i:Nat),i+d=us.length->∃b:Bool,Ac (CV n cl bw pe tk us) (some (.inl (.l1 (i:Int)))) (IA b):=by
 intro d;induction d with
 | zero=>intro i hi;refine Ay (show CV n cl bw pe tk us (.l1 (i:Int))=Hm n cl bw pe tk us i from rfl) ?_;unfold Hm;rw[Ad (Uk (by simp only[iN,Ui];omega))];exact⟨true,.ret _⟩
 | succ d ih=>intro i hi;have nx:=ih (i+1) (by omega);rw[<-Bk i (by omega)] at nx;refine Ay (show CV n cl bw pe tk us (.l1 (i:Int))=Hm n cl bw pe tk us i from rfl) ?_;unfold Hm;rw[Ag (Ul (by simp only[iN,Ui];omega))];have no:∃b:Bool,Ac (CV n cl bw pe tk us) (some (.inr ([],AV.bool false))) (IA b):=⟨false,.ret _⟩;refine Ah (by omega) (AZ (by omega) fun x hx=>Am (fun _=>no) fun _=>Am (fun _=>no) fun _=>Am (fun _=>no) fun _=>Am (fun _=>no) fun h1=>Am (fun h0=>?_) fun _=>nx);have h0:=of_decide_eq_true h0;have h1:=of_decide_eq_false h1;simp only[iN,Ui] at h1;exact Ah h0 (AZ (by omega) fun y hy=>Am (fun _=>no) fun _=>nx)
theorem va6_l0{n:Aa}(cl:List Bool)(bw pe:List Int)(tk:List TsD)(us:List UsD)(hu:us.length<=8)(ht:tk.length<=1000):∀(d i:Nat),i+d=tk.length->∃b:Bool,Ac (CV n cl bw pe tk us) (some (.inl (.l0 (i:Int)))) (IA b):=by
 intro d;induction d with
 | zero=>intro i hi;refine Ay (show CV n cl bw pe tk us (.l0 (i:Int))=Gt n cl bw pe tk us i from rfl) ?_;unfold Gt;rw[Ad (Uk (by simp only[iN,Ui];omega))];exact va6_l1 cl bw pe tk us hu us.length 0 (Uu _)
 | succ d ih=>intro i hi;have nx:=ih (i+1) (by omega);rw[<-Bk i (by omega)] at nx;refine Ay (show CV n cl bw pe tk us (.l0 (i:Int))=Gt n cl bw pe tk us i from rfl) ?_;unfold Gt;rw[Ag (Ul (by simp only[iN,Ui];omega))];have no:∃b:Bool,Ac (CV n cl bw pe tk us) (some (.inr ([],AV.bool false))) (IA b):=⟨false,.ret _⟩;refine Ah (by omega) (AZ (by omega) fun x hx=>Am (fun _=>no) fun h1=>Am (fun _=>no) fun h2=>Am (fun _=>no) fun h3=>Am (fun _=>no) fun h4=>?_);have h1:=of_decide_eq_false h1;have h2:=of_decide_eq_false h2;have h3:=of_decide_eq_false h3;have h4:=of_decide_eq_false h4;simp only[iN,Ui] at h2 h4;exact Ah (by omega) (AZ (by omega) fun y hy=>Am (fun _=>no) fun _=>Ah (by omega) (AZ (by omega) fun z hz=>Am (fun _=>no) fun _=>nx))
theorem QJ(n:Aa)(cl:List Bool)(bw pe:List Int)(tk:List TsD)(us:List UsD):∃b:Bool,LgV n ⟨cl,bw,pe,tk,us⟩->CT Vb 66 [] [Ai n,lgA ⟨cl,bw,pe,tk,us⟩] [] (.bool b):=by
 by_cases hV:LgV n ⟨cl,bw,pe,tk,us⟩
 .have hu:=hV.ul;have ht:=hV.tl;simp only at hu ht;obtain⟨b,hb⟩:∃b:Bool,Ac (CV n cl bw pe tk us) (Lq n cl bw pe tk us) (IA b):=by unfold Lq;have no:∃b:Bool,Ac (CV n cl bw pe tk us) (some (.inr ([],AV.bool false))) (IA b):=⟨false,.ret _⟩;exact Ah hV.rw (Am (fun _=>no) fun _=>Am (fun _=>no) fun _=>Am (fun _=>no) fun _=>va6_l0 cl bw pe tk us hu (by omega) tk.length 0 (Uu _))
  exact⟨b,fun _=>va6_ct n cl bw pe tk us _ hb⟩
 .exact⟨false,fun q=>absurd q hV⟩
@[irreducible] def va6B(n:Aa)(cl:List Bool)(bw pe:List Int)(tk:List TsD)(us:List UsD):Bool:=Classical.choose (QJ n cl bw pe tk us)
theorem va6_c(n:Aa)(cl:List Bool)(bw pe:List Int)(tk:List TsD)(us:List UsD)(hV:LgV n ⟨cl,bw,pe,tk,us⟩):CT Vb 66 [] [Ai n,lgA ⟨cl,bw,pe,tk,us⟩] [] (.bool (va6B n cl bw pe tk us)):=by unfold va6B;exact UP (QJ n cl bw pe tk us) hV
def Kv(n:Aa)(cl:List Bool)(bw pe:List Int)(tk:List TsD)(us:List UsD)(w0 w1 w2 w3:Int):Option (Empty⊕Ret):=gu (LgV n (LgD.mk cl bw pe tk us)) <|br (!va6B n cl bw pe tk us) (some (.inr ([],AV.tup [AV.agg [AV.nils,AV.nils,AV.nils,AV.nils,AV.nils],iV 20]))) (gu (cl.length<=1000) <|gu (bw.length<=1000) <|gu (pe.length<=1000) <|gu (tk.length<=1000) <|gu (us.length<=1000) <|gu (∀(b:Int),b∈pe->0<=b) <|br (decide (0<=w2)) (br (w1==2) (br (decide (w2<iN tk.length)) (br (decide (0<=w3)) (br (decide (w3<iN us.length)) (gu (0<=w2) <|gu (w2<iN tk.length) <|el (tk) (0+w2.toNat) fun(x70:TsD)=>el (tk.set (0+w2.toNat) (TsD.mk x70.p x70.d 1 x70.q x70.ov)) (0+w2.toNat) fun(x72:TsD)=>br (!decide (w3<iN us.length)) (some (.inr ([],AV.tup [AV.agg [AV.nils,AV.nils,AV.nils,AV.nils,AV.nils],iV 19]))) (some (.inr ([],AV.tup [AV.agg [Va (boL cl),Va (U4 iV bw),Va (U4 iV pe),Va (((U4 tsA tk).set (0+w2.toNat) (AV.agg [iV x70.p,iV x70.d,iV 1,iV x70.q,iV x70.ov])).set (0+w2.toNat) (AV.agg [iV x72.p,iV x72.d,iV x72.s,iV w3,iV x72.ov])),Va (U4 usA us)],iV 0])))) (br (!decide (w3<iN us.length)) (some (.inr ([],AV.tup [AV.agg [AV.nils,AV.nils,AV.nils,AV.nils,AV.nils],iV 19]))) (some (.inr ([],AV.tup [AV.agg [Va (boL cl),Va (U4 iV bw),Va (U4 iV pe),Va (U4 tsA tk),Va (U4 usA us)],iV 0]))))) (some (.inr ([],AV.tup [AV.agg [AV.nils,AV.nils,AV.nils,AV.nils,AV.nils],iV 19])))) (some (.inr ([],AV.tup [AV.agg [AV.nils,AV.nils,AV.nils,AV.nils,AV.nils],iV 19])))) (br (w1==3) (br (decide (w2<iN tk.length)) (br (w1==5) (gu (0<=w2) <|gu (w2<iN tk.length) <|el (tk) (0+w2.toNat) fun(x105:TsD)=>some (.inr ([],AV.tup [AV.agg [Va (boL cl),Va (U4 iV bw),Va (U4 iV pe),Va ((U4 tsA tk).set (0+w2.toNat) (AV.agg [iV x105.p,iV x105.d,iV (BH w1),iV x105.q,iV x105.ov])),Va (U4 usA us)],iV 0]))) (br (decide (0<=w3)) (br (decide (w3<iN us.length)) (gu (0<=w2) <|gu (w2<iN tk.length) <|el (tk) (0+w2.toNat) fun(x105:TsD)=>br (!decide (w3<iN us.length)) (some (.inr ([],AV.tup [AV.agg [AV.nils,AV.nils,AV.nils,AV.nils,AV.nils],iV 19]))) (some (.inr ([],AV.tup [AV.agg [Va (boL cl),Va (U4 iV bw),Va (U4 iV pe),Va ((U4 tsA tk).set (0+w2.toNat) (AV.agg [iV x105.p,iV x105.d,iV (BH w1),iV x105.q,iV x105.ov])),Va (U4 usA us)],iV 0])))) (br (!decide (w3<iN us.length)) (some (.inr ([],AV.tup [AV.agg [AV.nils,AV.nils,AV.nils,AV.nils,AV.nils],iV 19]))) (some (.inr ([],AV.tup [AV.agg [Va (boL cl),Va (U4 iV bw),Va (U4 iV pe),Va (U4 tsA tk),Va (U4 usA us)],iV 0]))))) (some (.inr ([],AV.tup [AV.agg [AV.nils,AV.nils,AV.nils,AV.nils,AV.nils],iV 19]))))) (some (.inr ([],AV.tup [AV.agg [AV.nils,AV.nils,AV.nils,AV.nils,AV.nils],iV 19])))) (br (w1==4) (br (decide (w2<iN tk.length)) (br (w1==5) (gu (0<=w2) <|gu (w2<iN tk.length) <|el (tk) (0+w2.toNat) fun(x105:TsD)=>some (.inr ([],AV.tup [AV.agg [Va (boL cl),Va (U4 iV bw),Va (U4 iV pe),Va ((U4 tsA tk).set (0+w2.toNat) (AV.agg [iV x105.p,iV x105.d,iV (BH w1),iV x105.q,iV x105.ov])),Va (U4 usA us)],iV 0]))) (br (decide (0<=w3)) (br (decide (w3<iN us.length)) (gu (0<=w2) <|gu (w2<iN tk.length) <|el (tk) (0+w2.toNat) fun(x105:TsD)=>br (!decide (w3<iN us.length)) (some (.inr ([],AV.tup [AV.agg [AV.nils,AV.nils,AV.nils,AV.nils,AV.nils],iV 19]))) (some (.inr ([],AV.tup [AV.agg [Va (boL cl),Va (U4 iV bw),Va (U4 iV pe),Va ((U4 tsA tk).set (0+w2.toNat) (AV.agg [iV x105.p,iV x105.d,iV (BH w1),iV x105.q,iV x105.ov])),Va (U4 usA us)],iV 0])))) (br (!decide (w3<iN us.length)) (some (.inr ([],AV.tup [AV.agg [AV.nils,AV.nils,AV.nils,AV.nils,AV.nils],iV 19]))) (some (.inr ([],AV.tup [AV.agg [Va (boL cl),Va (U4 iV bw),Va (U4 iV pe),Va (U4 tsA tk),Va (U4 usA us)],iV 0]))))) (some (.inr ([],AV.tup [AV.agg [AV.nils,AV.nils,AV.nils,AV.nils,AV.nils],iV 19]))))) (some (.inr ([],AV.tup [AV.agg [AV.nils,AV.nils,AV.nils,AV.nils,AV.nils],iV 19])))) (br (w1==5) (br (decide (w2<iN tk.length)) (gu (0<=w2) <|gu (w2<iN tk.length) <|el (tk) (0+w2.toNat) fun(x105:TsD)=>some (.inr ([],AV.tup [AV.agg [Va (boL cl),Va (U4 iV bw),Va (U4 iV pe),Va ((U4 tsA tk).set (0+w2.toNat) (AV.agg [iV x105.p,iV x105.d,iV (BH w1),iV x105.q,iV x105.ov])),Va (U4 usA us)],iV 0]))) (some (.inr ([],AV.tup [AV.agg [AV.nils,AV.nils,AV.nils,AV.nils,AV.nils],iV 19])))) (br (w1==6) (br (decide (w2<iN us.length)) (gu (0<=w2) <|gu (w2<iN us.length) <|el (us) (0+w2.toNat) fun(x119:UsD)=>el (us.set (0+w2.toNat) (UsD.mk 2 x119.lv x119.hm)) (0+w2.toNat) fun(x121:UsD)=>br (!decide (w2<iN us.length)) (some (.inr ([],AV.tup [AV.agg [AV.nils,AV.nils,AV.nils,AV.nils,AV.nils],iV 19]))) (some (.inr ([],AV.tup [AV.agg [Va (boL cl),Va (U4 iV bw),Va (U4 iV pe),Va (U4 tsA tk),Va (((U4 usA us).set (0+w2.toNat) (AV.agg [iV 2,bV x119.lv,iV x119.hm,iV 0,iV 0,uV 0,bV false,bV false,iV 0,iV 0,Va [],iV 0,iV 0])).set (0+w2.toNat) (AV.agg [iV x121.s,bV x121.lv,iV (-2),iV 0,iV 0,uV 0,bV false,bV false,iV 0,iV 0,Va [],iV 0,iV 0]))],iV 0])))) (br (!decide (w2<iN us.length)) (some (.inr ([],AV.tup [AV.agg [AV.nils,AV.nils,AV.nils,AV.nils,AV.nils],iV 19]))) (some (.inr ([],AV.tup [AV.agg [Va (boL cl),Va (U4 iV bw),Va (U4 iV pe),Va (U4 tsA tk),Va (U4 usA us)],iV 0]))))) (br (w1==8) (br (decide (w2<iN us.length)) (gu (0<=w2) <|gu (w2<iN us.length) <|el (us) (0+w2.toNat) fun(x135:UsD)=>el (us.set (0+w2.toNat) (UsD.mk 3 x135.lv x135.hm)) (0+w2.toNat) fun(x137:UsD)=>br (!decide (w2<iN us.length)) (some (.inr ([],AV.tup [AV.agg [AV.nils,AV.nils,AV.nils,AV.nils,AV.nils],iV 19]))) (some (.inr ([],AV.tup [AV.agg [Va (boL cl),Va (U4 iV bw),Va (U4 iV pe),Va (U4 tsA tk),Va (((U4 usA us).set (0+w2.toNat) (AV.agg [iV 3,bV x135.lv,iV x135.hm,iV 0,iV 0,uV 0,bV false,bV false,iV 0,iV 0,Va [],iV 0,iV 0])).set (0+w2.toNat) (AV.agg [iV x137.s,bV x137.lv,iV (-2),iV 0,iV 0,uV 0,bV false,bV false,iV 0,iV 0,Va [],iV 0,iV 0]))],iV 0])))) (br (!decide (w2<iN us.length)) (some (.inr ([],AV.tup [AV.agg [AV.nils,AV.nils,AV.nils,AV.nils,AV.nils],iV 19]))) (some (.inr ([],AV.tup [AV.agg [Va (boL cl),Va (U4 iV bw),Va (U4 iV pe),Va (U4 tsA tk),Va (U4 usA us)],iV 0]))))) (br (w1==7) (br (decide (w2<iN (boL cl).length)) (br (decide (-1<=w3)) (br (decide (w3<iN us.length)) (gu (cl.length<=1000000) <|gu (bw.length<=1000000) <|gu (pe.length<=1000000) <|gu (0<=w2) <|gu (w2<iN cl.length) <|gu (w2<iN bw.length) <|gu (∀(blk:Blk),blk∈[bK (boL (clS (Aj.mk cl bw pe) w2 w3).cl) 1,bK (U4 iV (clS (Aj.mk cl bw pe) w2 w3).bw) 1,bK (U4 iV (clS (Aj.mk cl bw pe) w2 w3).pe) 1]->A5 blk) <|br (!decide (w3<iN us.length)) (some (.inr ([],AV.tup [AV.agg [AV.nils,AV.nils,AV.nils,AV.nils,AV.nils],iV 19]))) (some (.inr ([],AV.tup [AV.agg [Va (boL (clS (Aj.mk cl bw pe) w2 w3).cl),Va (U4 iV (clS (Aj.mk cl bw pe) w2 w3).bw),Va (U4 iV (clS (Aj.mk cl bw pe) w2 w3).pe),Va (U4 tsA tk),Va (U4 usA us)],iV 0])))) (br (!decide (w3<iN us.length)) (some (.inr ([],AV.tup [AV.agg [AV.nils,AV.nils,AV.nils,AV.nils,AV.nils],iV 19]))) (some (.inr ([],AV.tup [AV.agg [Va (boL cl),Va (U4 iV bw),Va (U4 iV pe),Va (U4 tsA tk),Va (U4 usA us)],iV 0]))))) (some (.inr ([],AV.tup [AV.agg [AV.nils,AV.nils,AV.nils,AV.nils,AV.nils],iV 19])))) (some (.inr ([],AV.tup [AV.agg [AV.nils,AV.nils,AV.nils,AV.nils,AV.nils],iV 19])))) (br (w1==11) (br (decide (w2<iN us.length)) (br (decide (0<=w3)) (br (decide (w3<iN (boL cl).length)) (gu (0<=w2) <|gu (w2<iN us.length) <|el (us) (0+w2.toNat) fun(x199:UsD)=>br (x199.s==0) (el (us) (0+w2.toNat) fun(x207:UsD)=>br (!decide (w3<iN (boL cl).length)) (some (.inr ([],AV.tup [AV.agg [AV.nils,AV.nils,AV.nils,AV.nils,AV.nils],iV 19]))) (some (.inr ([],AV.tup [AV.agg [Va (boL cl),Va (U4 iV bw),Va (U4 iV pe),Va (U4 tsA tk),Va ((U4 usA us).set (0+w2.toNat) (AV.agg [iV 1,bV x207.lv,iV x207.hm,iV 0,iV 0,uV 0,bV false,bV false,iV 0,iV 0,Va [],iV 0,iV 0]))],iV 0])))) (br (!decide (w3<iN (boL cl).length)) (some (.inr ([],AV.tup [AV.agg [AV.nils,AV.nils,AV.nils,AV.nils,AV.nils],iV 19]))) (some (.inr ([],AV.tup [AV.agg [Va (boL cl),Va (U4 iV bw),Va (U4 iV pe),Va (U4 tsA tk),Va (U4 usA us)],iV 0]))))) (br (!decide (w3<iN (boL cl).length)) (some (.inr ([],AV.tup [AV.agg [AV.nils,AV.nils,AV.nils,AV.nils,AV.nils],iV 19]))) (some (.inr ([],AV.tup [AV.agg [Va (boL cl),Va (U4 iV bw),Va (U4 iV pe),Va (U4 tsA tk),Va (U4 usA us)],iV 0]))))) (some (.inr ([],AV.tup [AV.agg [AV.nils,AV.nils,AV.nils,AV.nils,AV.nils],iV 19])))) (some (.inr ([],AV.tup [AV.agg [AV.nils,AV.nils,AV.nils,AV.nils,AV.nils],iV 19])))) (br (w1==19) (br (decide (w2<iN us.length)) (br (decide (-2<=w3)) (br (decide (w3<iN (U4 sA n.ss).length)) (br (decide (w3<0)) (gu (0<=w2) <|gu (w2<iN us.length) <|el (us) (0+w2.toNat) fun(x246:UsD)=>some (.inr ([],AV.tup [AV.agg [Va (boL cl),Va (U4 iV bw),Va (U4 iV pe),Va (U4 tsA tk),Va ((U4 usA us).set (0+w2.toNat) (AV.agg [iV x246.s,bV x246.lv,iV w3,iV 0,iV 0,uV 0,bV false,bV false,iV 0,iV 0,Va [],iV 0,iV 0]))],iV 0]))) (gu (0<=w3) <|el (n.ss) (w3.toNat) fun(x233:Av)=>br (x233.dep) (gu (0<=w2) <|gu (w2<iN us.length) <|el (us) (0+w2.toNat) fun(x246:UsD)=>br (!x233.dep) (some (.inr ([],AV.tup [AV.agg [AV.nils,AV.nils,AV.nils,AV.nils,AV.nils],iV 19]))) (some (.inr ([],AV.tup [AV.agg [Va (boL cl),Va (U4 iV bw),Va (U4 iV pe),Va (U4 tsA tk),Va ((U4 usA us).set (0+w2.toNat) (AV.agg [iV x246.s,bV x246.lv,iV w3,iV 0,iV 0,uV 0,bV false,bV false,iV 0,iV 0,Va [],iV 0,iV 0]))],iV 0])))) (br (!x233.dep) (some (.inr ([],AV.tup [AV.agg [AV.nils,AV.nils,AV.nils,AV.nils,AV.nils],iV 19]))) (some (.inr ([],AV.tup [AV.agg [Va (boL cl),Va (U4 iV bw),Va (U4 iV pe),Va (U4 tsA tk),Va (U4 usA us)],iV 0])))))) (some (.inr ([],AV.tup [AV.agg [AV.nils,AV.nils,AV.nils,AV.nils,AV.nils],iV 19])))) (some (.inr ([],AV.tup [AV.agg [AV.nils,AV.nils,AV.nils,AV.nils,AV.nils],iV 19])))) (some (.inr ([],AV.tup [AV.agg [AV.nils,AV.nils,AV.nils,AV.nils,AV.nils],iV 19])))) (some (.inr ([],AV.tup [AV.agg [Va (boL cl),Va (U4 iV bw),Va (U4 iV pe),Va (U4 tsA tk),Va (U4 usA us)],iV 0])))))))))))) (br (w1==2) (some (.inr ([],AV.tup [AV.agg [AV.nils,AV.nils,AV.nils,AV.nils,AV.nils],iV 19]))) (br (w1==3) (some (.inr ([],AV.tup [AV.agg [AV.nils,AV.nils,AV.nils,AV.nils,AV.nils],iV 19]))) (br (w1==4) (some (.inr ([],AV.tup [AV.agg [AV.nils,AV.nils,AV.nils,AV.nils,AV.nils],iV 19]))) (br (w1==5) (some (.inr ([],AV.tup [AV.agg [AV.nils,AV.nils,AV.nils,AV.nils,AV.nils],iV 19]))) (br (w1==6) (some (.inr ([],AV.tup [AV.agg [AV.nils,AV.nils,AV.nils,AV.nils,AV.nils],iV 19]))) (br (w1==8) (some (.inr ([],AV.tup [AV.agg [AV.nils,AV.nils,AV.nils,AV.nils,AV.nils],iV 19]))) (br (w1==7) (some (.inr ([],AV.tup [AV.agg [AV.nils,AV.nils,AV.nils,AV.nils,AV.nils],iV 19]))) (br (w1==11) (some (.inr ([],AV.tup [AV.agg [AV.nils,AV.nils,AV.nils,AV.nils,AV.nils],iV 19]))) (br (w1==19) (some (.inr ([],AV.tup [AV.agg [AV.nils,AV.nils,AV.nils,AV.nils,AV.nils],iV 19]))) (some (.inr ([],AV.tup [AV.agg [Va (boL cl),Va (U4 iV bw),Va (U4 iV pe),Va (U4 tsA tk),Va (U4 usA us)],iV 0])))))))))))))
theorem fa6_ct(n:Aa)(cl:List Bool)(bw pe:List Int)(tk:List TsD)(us:List UsD)(w0 w1 w2 w3:Int)(r:Ret)(h:Ac emT (Kv n cl bw pe tk us w0 w1 w2 w3) r):CT Vb 23 ([]) ([Ai n,lgA ⟨cl,bw,pe,tk,us⟩,enA w0 w1 w2 w3]) r.1 r.2:=
 CT.mach (fn:=Tryz.f23) (c:=zB Tryz.f23) (S:=emS) (hd:=emH) Tryz.func23 (by kernel_rfl) (nL rfl)
  (fun s o ho=>match s,ho with
   | x,_=>x.elim)
  (fun o ho=>Scr.ok (X:=Kv n cl bw pe tk us w0 w1 w2 w3) ho mix (
 .rn 0 [] [] [] [] (al (u2 (u2 (u2 t3)))) <|
 .gu fun a0=>
 have c0:=va6_c n (cl) (bw) (pe) (tk) (us) a0;
 .rn 0 [] [] [(13,hK c0 [] [])] [] (al (u2 (u2 (aj (k2 (aj t9 (aj t6 (al (c0))))) s2)))) <|
 .br (fun a1=>
 .rt [29] [] [] [] [] [] (aj (aj a1 (al (ak (aj (k2 n11) t2)))) (al (aj t6 t2))))
 (fun a1=>
 .gu fun a2=>
 .gu fun a3=>
 .gu fun a4=>
 .gu fun a5=>
 .gu fun a6=>
 .gu fun a7=>
 have c1:=cpy_c (cl) (bw) (pe) (tk) (us) a2 a3 a4 a5 a6 a7;
 .rn 0 [28] [] [(17,hK c1 [] [])] [] (aj a1 (al (u2 (aj (ak (aj t6 (al (c1)))) (al (k2 (show Nat.le 1 [AV.agg [Va (boL cl),Va (U4 iv bw),Va (U4 iv pe),Va (U4 tsA tk),Va (U4 usA us)]].length from(nL rfl)))))))) <|
 .br (fun a8=>
  .rn 3 [43,65] [] [] [] (aj (u2 (u2 (u2 (u2 (ag a8 (ag a8 (ag a8 (ag a8 (ag a8 (aj (aj a8 t3) (ag a8 (u2 (u2 (u2 (u2 (ag a8 (ag a8 (ag a8 (ag a8 (ag a8 (aj (aj a8 t3) (ag a8 (u2 s2))))))))))))))))))))))) (u2 (aj (u2 s2) (al (u2 s2))))) <|
  .br (fun a9=>
  .br (fun a10=>
   .br (fun a11=>
   .rn 1 [43,65,85,91,101] [] [] [] (aj a9 (aj (u2 (u2 (ag a10 (ag a10 (ag a10 (ag a10 (u2 (ag a11 (ag a11 (ag a11 (ag a11 (ag a11 (aj (aj a11 t3) (ag a11 s2)))))))))))))) (al s2))) <|
   .br (fun a12=>
    .gu fun a13=>
    .gu fun a14=>
    .el fun x70 a15=>
    .el fun x72 a16=>
    .rn 1 [43,65,91,101,117] [(70,tsA x70),(72,tsA x72)] [] [] (aj a12 (aj (u2 (u2 (u2 (u2 (u2 (u2 (u2 (u2 (u2 (u2 (aj (k2 (aj a13 a14)) (u2 (aj (ak (Af (f:=tsA) a15)) (aj (k2 (aj a13 a14)) (u2 (al (k2 (show((U4 tsA tk).set (0+w2.toNat) (AV.agg [iv x70.p,iv x70.d,iv 1,iv x70.q,iv x70.ov]))[0+w2.toNat]?=some (AV.agg [iv x72.p,iv x72.d,iv x72.s,iv x72.q,iv x72.ov]) from Md (f:=tsA) a16 (by first | (simp only[boL,Us,U0,List.map_take,List.map_drop,List.map_replicate,List.nil_append];done) | (simp only[boL,Us,U0,List.map_take,List.map_drop,List.map_replicate,List.nil_append];rfl) | (simp[gL,boL,lI,sA,bA,tsA,usA];done) | (simp[gL,boL,lI,sA,bA,tsA,usA];rfl) | (simp only[boL,Us,U0,Ub,Uc];rfl)))))))))))))))))))) (al (u2 s2)))) <|
    .br (fun a17=>
    .rt [43,65,91,101,497] [] [] [] [] [] (aj (aj a17 (al (ak (aj (k2 n11) t2)))) (al (aj t6 t2))))
    (fun a17=>
    .rt [43,65,91,101,496] [] [] [] [] [4,5,6,7,8] (aj (aj a17 (al (u2 (aj (k2 n11) t2)))) (al (aj (aj (show(boL cl).length=(boL cl).length from rfl) (aj (show bw.length=(U4 iv bw).length by simp) (aj (show pe.length=(U4 iv pe).length by simp) (aj (show tk.length=(((U4 tsA tk).set (0+w2.toNat) (AV.agg [iv x70.p,iv x70.d,iv 1,iv x70.q,iv x70.ov])).set (0+w2.toNat) (AV.agg [iv x72.p,iv x72.d,iv x72.s,iv w3,iv x72.ov])).length by simp) (al (show us.length=(U4 usA us).length by simp)))))) t2)))))
   (fun a12=>
    .rn 0 [43,65,91,101,116] [] [] [] (aj a12 (al (u2 s2))) <|
    .br (fun a13=>
    .rt [43,65,91,101,497] [] [] [] [] [] (aj (aj a13 (al (ak (aj (k2 n11) t2)))) (al (aj t6 t2))))
    (fun a13=>
    .rt [43,65,91,101,496] [] [] [] [] [4,5,6,7,8] (aj (aj a13 (al (u2 (aj (k2 n11) t2)))) (al (aj (aj (show(boL cl).length=(boL cl).length from rfl) (aj (show bw.length=(U4 iv bw).length by simp) (aj (show pe.length=(U4 iv pe).length by simp) (aj (show tk.length=(U4 tsA tk).length by simp) (al (show us.length=(U4 usA us).length by simp)))))) t2))))))
   (fun a11=>
   .rt [43,65,85,91,100] [] [] [] [] [] (aj (aj a9 (aj (u2 (u2 (ag a10 (ag a10 (ag a10 (ag a10 (u2 (aj a11 (aj a11 (aj a11 (aj a11 (aj a11 (aj a11 (ag a11 s2)))))))))))))) (aj s2 (ak (aj (u2 s2) (ak (al (ak (aj (k2 n11) t2))))))))) (al (aj t6 t2)))))
  (fun a10=>
   .rt [43,65,85,90] [] [] [] [] [] (aj (aj a9 (aj (u2 (u2 (aj a10 (aj a10 (aj a10 (ag a10 (u2 (ak (k5 (aj t3 s2)))))))))) (aj s2 (ak (aj (u2 s2) (ak (al (ak (aj (k2 n11) t2))))))))) (al (aj t6 t2)))))
  (fun a9=>
  .rn 0 [43,65,84] [] [] [] (aj a9 (al (u2 s2))) <|
  .br (fun a10=>
   .br (fun a11=>
   .br (fun a12=>
    .rn 1 [43,65,147,157,165] [] [] [] (aj a10 (ak (aj (u2 (u2 (ag a11 (ag a11 (ag a11 (ag a11 (aj a12 (aj a12 (aj a12 (aj a12 (ak (k5 (aj a12 (aj (aj a11 (aj a12 t2)) (ag a11 s2))))))))))))))) (al s2)))) <|
    .gu fun a13=>
    .gu fun a14=>
    .el fun x105 a15=>
    have c2:=JL (w1);
    .rt [43,65,157,165] [(105,tsA x105)] [(103,hK c2 [] [])] [] [] [4,5,6,7,8] (aj (ak (aj (u2 (u2 (u2 (u2 (u2 (u2 (aj (k2 (al (c2))) (aj (k2 (aj a13 a14)) (u2 (al (k2 (Af (f:=tsA) a15)))))))))))) (aj (u2 s2) (ak (al (u2 (aj (k2 n11) t2))))))) (al (aj (aj (show(boL cl).length=(boL cl).length from rfl) (aj (show bw.length=(U4 iv bw).length by simp) (aj (show pe.length=(U4 iv pe).length by simp) (aj (show tk.length=((U4 tsA tk).set (0+w2.toNat) (AV.agg [iv x105.p,iv x105.d,iv (BH w1),iv x105.q,iv x105.ov])).length by simp) (al (show us.length=(U4 usA us).length by simp)))))) t2))))
   (fun a12=>
    .br (fun a13=>
    .rn 1 [43,65,147,157,164,173] [] [] [] (aj a10 (ak (aj (u2 (u2 (ag a11 (ag a11 (ag a11 (ag a11 (ag a12 (ag a12 (ag a12 (ag a12 (ag a13 (ag a13 (ag a13 (ag a13 (ag a13 (aj (aj a13 t3) (aj (aj a12 (aj a13 t2)) (aj (aj a11 (aj a12 t2)) (ag a11 s2))))))))))))))))))) (al s2)))) <|
    .br (fun a14=>
     .gu fun a15=>
     .gu fun a16=>
     .el fun x105 a17=>
     have c2:=JL (w1);
     .rn 1 [43,65,157,164,173,193] [(105,tsA x105)] [(103,hK c2 [] [])] [] (aj a14 (aj (u2 (u2 (u2 (u2 (u2 (u2 (aj (k2 (al (c2))) (aj (k2 (aj a15 a16)) (u2 (al (k2 (Af (f:=tsA) a17)))))))))))) (al (u2 s2)))) <|
     .br (fun a18=>
     .rt [43,65,157,164,173,497] [] [] [] [] [] (aj (aj a18 (al (ak (aj (k2 n11) t2)))) (al (aj t6 t2))))
     (fun a18=>
     .rt [43,65,157,164,173,496] [] [] [] [] [4,5,6,7,8] (aj (aj a18 (al (u2 (aj (k2 n11) t2)))) (al (aj (aj (show(boL cl).length=(boL cl).length from rfl) (aj (show bw.length=(U4 iv bw).length by simp) (aj (show pe.length=(U4 iv pe).length by simp) (aj (show tk.length=((U4 tsA tk).set (0+w2.toNat) (AV.agg [iv x105.p,iv x105.d,iv (BH w1),iv x105.q,iv x105.ov])).length by simp) (al (show us.length=(U4 usA us).length by simp)))))) t2)))))
    (fun a14=>
     .rn 0 [43,65,157,164,173,192] [] [] [] (aj a14 (al (u2 s2))) <|
     .br (fun a15=>
     .rt [43,65,157,164,173,497] [] [] [] [] [] (aj (aj a15 (al (ak (aj (k2 n11) t2)))) (al (aj t6 t2))))
     (fun a15=>
     .rt [43,65,157,164,173,496] [] [] [] [] [4,5,6,7,8] (aj (aj a15 (al (u2 (aj (k2 n11) t2)))) (al (aj (aj (show(boL cl).length=(boL cl).length from rfl) (aj (show bw.length=(U4 iv bw).length by simp) (aj (show pe.length=(U4 iv pe).length by simp) (aj (show tk.length=(U4 tsA tk).length by simp) (al (show us.length=(U4 usA us).length by simp)))))) t2))))))
    (fun a13=>
    .rt [43,65,147,157,164,172] [] [] [] [] [] (aj (aj a10 (ak (aj (u2 (u2 (ag a11 (ag a11 (ag a11 (ag a11 (ag a12 (ag a12 (ag a12 (ag a12 (aj a13 (aj a13 (aj a13 (aj a13 (aj a13 (aj a13 (aj (aj a12 (aj a13 t2)) (aj (aj a11 (aj a12 t2)) (ag a11 s2))))))))))))))))))) (aj s2 (ak (aj (u2 s2) (ak (al (ak (aj (k2 n11) t2)))))))))) (al (aj t6 t2))))))
   (fun a11=>
   .rt [43,65,147,156] [] [] [] [] [] (aj (aj a10 (ak (aj (u2 (u2 (aj a11 (aj a11 (aj a11 (aj a11 (ak (k5 (k5 (aj a11 (ag a11 s2))))))))))) (aj s2 (ak (aj (u2 s2) (ak (al (ak (aj (k2 n11) t2)))))))))) (al (aj t6 t2)))))
  (fun a10=>
   .rn 0 [43,65,146] [] [] [] (aj a10 (al (u2 s2))) <|
   .br (fun a11=>
   .br (fun a12=>
    .br (fun a13=>
    .rn 1 [43,65,147,157,165] [] [] [] (aj a11 (ak (aj (u2 (u2 (ag a12 (ag a12 (ag a12 (ag a12 (aj a13 (aj a13 (aj a13 (aj a13 (ak (k5 (aj a13 (aj (aj a12 (aj a13 t2)) (ag a12 s2))))))))))))))) (al s2)))) <|
    .gu fun a14=>
    .gu fun a15=>
    .el fun x105 a16=>
    have c2:=JL (w1);
    .rt [43,65,157,165] [(105,tsA x105)] [(103,hK c2 [] [])] [] [] [4,5,6,7,8] (aj (ak (aj (u2 (u2 (u2 (u2 (u2 (u2 (aj (k2 (al (c2))) (aj (k2 (aj a14 a15)) (u2 (al (k2 (Af (f:=tsA) a16)))))))))))) (aj (u2 s2) (ak (al (u2 (aj (k2 n11) t2))))))) (al (aj (aj (show(boL cl).length=(boL cl).length from rfl) (aj (show bw.length=(U4 iv bw).length by simp) (aj (show pe.length=(U4 iv pe).length by simp) (aj (show tk.length=((U4 tsA tk).set (0+w2.toNat) (AV.agg [iv x105.p,iv x105.d,iv (BH w1),iv x105.q,iv x105.ov])).length by simp) (al (show us.length=(U4 usA us).length by simp)))))) t2))))
    (fun a13=>
    .br (fun a14=>
     .rn 1 [43,65,147,157,164,173] [] [] [] (aj a11 (ak (aj (u2 (u2 (ag a12 (ag a12 (ag a12 (ag a12 (ag a13 (ag a13 (ag a13 (ag a13 (ag a14 (ag a14 (ag a14 (ag a14 (ag a14 (aj (aj a14 t3) (aj (aj a13 (aj a14 t2)) (aj (aj a12 (aj a13 t2)) (ag a12 s2))))))))))))))))))) (al s2)))) <|
     .br (fun a15=>
     .gu fun a16=>
     .gu fun a17=>
     .el fun x105 a18=>
     have c2:=JL (w1);
     .rn 1 [43,65,157,164,173,193] [(105,tsA x105)] [(103,hK c2 [] [])] [] (aj a15 (aj (u2 (u2 (u2 (u2 (u2 (u2 (aj (k2 (al (c2))) (aj (k2 (aj a16 a17)) (u2 (al (k2 (Af (f:=tsA) a18)))))))))))) (al (u2 s2)))) <|
     .br (fun a19=>
      .rt [43,65,157,164,173,497] [] [] [] [] [] (aj (aj a19 (al (ak (aj (k2 n11) t2)))) (al (aj t6 t2))))
     (fun a19=>
      .rt [43,65,157,164,173,496] [] [] [] [] [4,5,6,7,8] (aj (aj a19 (al (u2 (aj (k2 n11) t2)))) (al (aj (aj (show(boL cl).length=(boL cl).length from rfl) (aj (show bw.length=(U4 iv bw).length by simp) (aj (show pe.length=(U4 iv pe).length by simp) (aj (show tk.length=((U4 tsA tk).set (0+w2.toNat) (AV.agg [iv x105.p,iv x105.d,iv (BH w1),iv x105.q,iv x105.ov])).length by simp) (al (show us.length=(U4 usA us).length by simp)))))) t2)))))
     (fun a15=>
     .rn 0 [43,65,157,164,173,192] [] [] [] (aj a15 (al (u2 s2))) <|
     .br (fun a16=>
      .rt [43,65,157,164,173,497] [] [] [] [] [] (aj (aj a16 (al (ak (aj (k2 n11) t2)))) (al (aj t6 t2))))
     (fun a16=>
      .rt [43,65,157,164,173,496] [] [] [] [] [4,5,6,7,8] (aj (aj a16 (al (u2 (aj (k2 n11) t2)))) (al (aj (aj (show(boL cl).length=(boL cl).length from rfl) (aj (show bw.length=(U4 iv bw).length by simp) (aj (show pe.length=(U4 iv pe).length by simp) (aj (show tk.length=(U4 tsA tk).length by simp) (al (show us.length=(U4 usA us).length by simp)))))) t2))))))
    (fun a14=>
     .rt [43,65,147,157,164,172] [] [] [] [] [] (aj (aj a11 (ak (aj (u2 (u2 (ag a12 (ag a12 (ag a12 (ag a12 (ag a13 (ag a13 (ag a13 (ag a13 (aj a14 (aj a14 (aj a14 (aj a14 (aj a14 (aj a14 (aj (aj a13 (aj a14 t2)) (aj (aj a12 (aj a13 t2)) (ag a12 s2))))))))))))))))))) (aj s2 (ak (aj (u2 s2) (ak (al (ak (aj (k2 n11) t2)))))))))) (al (aj t6 t2))))))
   (fun a12=>
    .rt [43,65,147,156] [] [] [] [] [] (aj (aj a11 (ak (aj (u2 (u2 (aj a12 (aj a12 (aj a12 (aj a12 (ak (k5 (k5 (aj a12 (ag a12 s2))))))))))) (aj s2 (ak (aj (u2 s2) (ak (al (ak (aj (k2 n11) t2)))))))))) (al (aj t6 t2)))))
   (fun a11=>
   .rn 0 [43,65,146] [] [] [] (aj a11 (al (u2 s2))) <|
   .br (fun a12=>
    .br (fun a13=>
    .rn 1 [43,65,147,157,165] [] [] [] (aj a12 (aj (u2 (u2 (ag a13 (ag a13 (ag a13 (ag a13 (aj a12 (aj a12 (aj a12 (aj a12 (ak (k5 (aj a12 (aj (aj a13 (aj a12 t2)) (ag a13 s2))))))))))))))) (al s2))) <|
    .gu fun a14=>
    .gu fun a15=>
    .el fun x105 a16=>
    have c2:=JL (w1);
    .rt [43,65,157,165] [(105,tsA x105)] [(103,hK c2 [] [])] [] [] [4,5,6,7,8] (aj (ak (aj (u2 (u2 (u2 (u2 (u2 (u2 (aj (k2 (al (c2))) (aj (k2 (aj a14 a15)) (u2 (al (k2 (Af (f:=tsA) a16)))))))))))) (aj (u2 s2) (ak (al (u2 (aj (k2 n11) t2))))))) (al (aj (aj (show(boL cl).length=(boL cl).length from rfl) (aj (show bw.length=(U4 iv bw).length by simp) (aj (show pe.length=(U4 iv pe).length by simp) (aj (show tk.length=((U4 tsA tk).set (0+w2.toNat) (AV.agg [iv x105.p,iv x105.d,iv (BH w1),iv x105.q,iv x105.ov])).length by simp) (al (show us.length=(U4 usA us).length by simp)))))) t2))))
    (fun a13=>
    .rt [43,65,147,156] [] [] [] [] [] (aj (aj a12 (aj (u2 (u2 (aj a13 (aj a13 (aj a13 (aj a13 (ak (k5 (k5 (aj a13 (ag a13 s2))))))))))) (aj s2 (ak (aj (u2 s2) (ak (al (ak (aj (k2 n11) t2))))))))) (al (aj t6 t2)))))
   (fun a12=>
    .rn 0 [43,65,146] [] [] [] (aj a12 (al (u2 s2))) <|
    .br (fun a13=>
    .rn 1 [43,65,213] [] [] [] (aj a13 (aj (u2 s2) (al s2))) <|
    .br (fun a14=>
     .gu fun a15=>
     .gu fun a16=>
     .el fun x119 a17=>
     .el fun x121 a18=>
     .rn 1 [43,65,219] [(119,usA x119),(121,usA x121)] [] [] (aj a14 (aj (u2 (u2 (u2 (u2 (u2 (u2 (u2 (u2 (aj (k2 (aj a15 a16)) (u2 (aj (ak (Af (f:=usA) a17)) (aj (k2 (aj a15 a16)) (u2 (al (ak (show((U4 usA us).set (0+w2.toNat) (AV.agg [iv 2,bV x119.lv,iv x119.hm,iv 0,iv 0,uV 0,bV false,bV false,iv 0,iv 0,Va [],iv 0,iv 0]))[0+w2.toNat]?=some (AV.agg [iv x121.s,bV x121.lv,iv x121.hm,iv 0,iv 0,uV 0,bV false,bV false,iv 0,iv 0,Va [],iv 0,iv 0]) from Md (f:=usA) a18 (by first | (simp only[boL,Us,U0,List.map_take,List.map_drop,List.map_replicate,List.nil_append];done) | (simp only[boL,Us,U0,List.map_take,List.map_drop,List.map_replicate,List.nil_append];rfl) | (simp[gL,boL,lI,sA,bA,tsA,usA];done) | (simp[gL,boL,lI,sA,bA,tsA,usA];rfl) | (simp only[boL,Us,U0,Ub,Uc];rfl)))))))))))))))))) (al (u2 s2)))) <|
     .br (fun a19=>
     .rt [43,65,497] [] [] [] [] [] (aj (aj a19 (al (ak (aj (k2 n11) t2)))) (al (aj t6 t2))))
     (fun a19=>
     .rt [43,65,496] [] [] [] [] [4,5,6,7,8] (aj (aj a19 (al (u2 (aj (k2 n11) t2)))) (al (aj (aj (show(boL cl).length=(boL cl).length from rfl) (aj (show bw.length=(U4 iv bw).length by simp) (aj (show pe.length=(U4 iv pe).length by simp) (aj (show tk.length=(U4 tsA tk).length by simp) (al (show us.length=(((U4 usA us).set (0+w2.toNat) (AV.agg [iv 2,bV x119.lv,iv x119.hm,iv 0,iv 0,uV 0,bV false,bV false,iv 0,iv 0,Va [],iv 0,iv 0])).set (0+w2.toNat) (AV.agg [iv x121.s,bV x121.lv,iv (-2),iv 0,iv 0,uV 0,bV false,bV false,iv 0,iv 0,Va [],iv 0,iv 0])).length by simp)))))) t2)))))
    (fun a14=>
     .rn 0 [43,65,218] [] [] [] (aj a14 (al (u2 s2))) <|
     .br (fun a15=>
     .rt [43,65,497] [] [] [] [] [] (aj (aj a15 (al (ak (aj (k2 n11) t2)))) (al (aj t6 t2))))
     (fun a15=>
     .rt [43,65,496] [] [] [] [] [4,5,6,7,8] (aj (aj a15 (al (u2 (aj (k2 n11) t2)))) (al (aj (aj (show(boL cl).length=(boL cl).length from rfl) (aj (show bw.length=(U4 iv bw).length by simp) (aj (show pe.length=(U4 iv pe).length by simp) (aj (show tk.length=(U4 tsA tk).length by simp) (al (show us.length=(U4 usA us).length by simp)))))) t2))))))
    (fun a13=>
    .rn 0 [43,65,212] [] [] [] (aj a13 (al (u2 s2))) <|
    .br (fun a14=>
     .rn 1 [43,65,245] [] [] [] (aj a14 (aj (u2 s2) (al s2))) <|
     .br (fun a15=>
     .gu fun a16=>
     .gu fun a17=>
     .el fun x135 a18=>
     .el fun x137 a19=>
     .rn 1 [43,65,251] [(135,usA x135),(137,usA x137)] [] [] (aj a15 (aj (u2 (u2 (u2 (u2 (u2 (u2 (u2 (u2 (aj (k2 (aj a16 a17)) (u2 (aj (ak (Af (f:=usA) a18)) (aj (k2 (aj a16 a17)) (u2 (al (ak (show((U4 usA us).set (0+w2.toNat) (AV.agg [iv 3,bV x135.lv,iv x135.hm,iv 0,iv 0,uV 0,bV false,bV false,iv 0,iv 0,Va [],iv 0,iv 0]))[0+w2.toNat]?=some (AV.agg [iv x137.s,bV x137.lv,iv x137.hm,iv 0,iv 0,uV 0,bV false,bV false,iv 0,iv 0,Va [],iv 0,iv 0]) from Md (f:=usA) a19 (by first | (simp only[boL,Us,U0,List.map_take,List.map_drop,List.map_replicate,List.nil_append];done) | (simp only[boL,Us,U0,List.map_take,List.map_drop,List.map_replicate,List.nil_append];rfl) | (simp[gL,boL,lI,sA,bA,tsA,usA];done) | (simp[gL,boL,lI,sA,bA,tsA,usA];rfl) | (simp only[boL,Us,U0,Ub,Uc];rfl)))))))))))))))))) (al (u2 s2)))) <|
     .br (fun a20=>
      .rt [43,65,497] [] [] [] [] [] (aj (aj a20 (al (ak (aj (k2 n11) t2)))) (al (aj t6 t2))))
     (fun a20=>
      .rt [43,65,496] [] [] [] [] [4,5,6,7,8] (aj (aj a20 (al (u2 (aj (k2 n11) t2)))) (al (aj (aj (show(boL cl).length=(boL cl).length from rfl) (aj (show bw.length=(U4 iv bw).length by simp) (aj (show pe.length=(U4 iv pe).length by simp) (aj (show tk.length=(U4 tsA tk).length by simp) (al (show us.length=(((U4 usA us).set (0+w2.toNat) (AV.agg [iv 3,bV x135.lv,iv x135.hm,iv 0,iv 0,uV 0,bV false,bV false,iv 0,iv 0,Va [],iv 0,iv 0])).set (0+w2.toNat) (AV.agg [iv x137.s,bV x137.lv,iv (-2),iv 0,iv 0,uV 0,bV false,bV false,iv 0,iv 0,Va [],iv 0,iv 0])).length by simp)))))) t2)))))
     (fun a15=>
     .rn 0 [43,65,250] [] [] [] (aj a15 (al (u2 s2))) <|
     .br (fun a16=>
      .rt [43,65,497] [] [] [] [] [] (aj (aj a16 (al (ak (aj (k2 n11) t2)))) (al (aj t6 t2))))
     (fun a16=>
      .rt [43,65,496] [] [] [] [] [4,5,6,7,8] (aj (aj a16 (al (u2 (aj (k2 n11) t2)))) (al (aj (aj (show(boL cl).length=(boL cl).length from rfl) (aj (show bw.length=(U4 iv bw).length by simp) (aj (show pe.length=(U4 iv pe).length by simp) (aj (show tk.length=(U4 tsA tk).length by simp) (al (show us.length=(U4 usA us).length by simp)))))) t2))))))
    (fun a14=>
     .rn 0 [43,65,244] [] [] [] (aj a14 (al (u2 s2))) <|
     .br (fun a15=>
     .br (fun a16=>
      .br (fun a17=>
      .rn 1 [43,65,277,287,305,315] [] [] [] (aj a15 (aj (u2 (u2 (u2 (u2 (ag a8 (ag a8 (ag a8 (ag a8 (ag a8 (ag a8 (aj (aj a8 t3) (ag a8 (u2 (ag a16 (ag a16 (ag a16 (ag a16 (u2 (ag a17 (ag a17 (ag a17 (ag a17 (ag a17 (aj (aj a17 t3) (ag a17 s2))))))))))))))))))))))))) (al s2))) <|
      .br (fun a18=>
       .gu fun a19=>
       .gu fun a20=>
       .gu fun a21=>
       .gu fun a22=>
       .gu fun a23=>
       .gu fun a24=>
       .gu fun a25=>
       have c2:=rsK_c (cl) (bw) (pe) (w2) (w3) a19 a20 a21 a22 a23 a24;
       .rn 1 [43,65,287,305,315,331] [] [(172,hK c2 [] [4,5,6])] [] (aj a18 (aj (u2 (u2 (u2 (u2 (u2 (u2 (aj (k3 (aj (aj (show(boL cl).length=(boL cl).length from rfl) (aj (show bw.length=(U4 iv bw).length by simp) (al (show pe.length=(U4 iv pe).length by simp)))) (k2 (aj (c2) a25)))) (u2 (al t3))))))))) (al (u2 s2)))) <|
       .br (fun a26=>
       .rt [43,65,287,305,315,497] [] [] [] [] [] (aj (aj a26 (al (ak (aj (k2 n11) t2)))) (al (aj t6 t2))))
       (fun a26=>
       .rt [43,65,287,305,315,496] [] [] [] [] [9,10,11,7,8] (aj (aj a26 (al (u2 (aj (k2 n11) t2)))) (al (aj (aj (show(boL (clS (Aj.mk cl bw pe) w2 w3).cl).length=(boL (clS (Aj.mk cl bw pe) w2 w3).cl).length from rfl) (aj (show(clS (Aj.mk cl bw pe) w2 w3).bw.length=(U4 iv (clS (Aj.mk cl bw pe) w2 w3).bw).length by simp) (aj (show(clS (Aj.mk cl bw pe) w2 w3).pe.length=(U4 iv (clS (Aj.mk cl bw pe) w2 w3).pe).length by simp) (aj (show tk.length=(U4 tsA tk).length by simp) (al (show us.length=(U4 usA us).length by simp)))))) t2)))))
      (fun a18=>
       .rn 0 [43,65,287,305,315,330] [] [] [] (aj a18 (al (u2 s2))) <|
       .br (fun a19=>
       .rt [43,65,287,305,315,497] [] [] [] [] [] (aj (aj a19 (al (ak (aj (k2 n11) t2)))) (al (aj t6 t2))))
       (fun a19=>
       .rt [43,65,287,305,315,496] [] [] [] [] [4,5,6,7,8] (aj (aj a19 (al (u2 (aj (k2 n11) t2)))) (al (aj (aj (show(boL cl).length=(boL cl).length from rfl) (aj (show bw.length=(U4 iv bw).length by simp) (aj (show pe.length=(U4 iv pe).length by simp) (aj (show tk.length=(U4 tsA tk).length by simp) (al (show us.length=(U4 usA us).length by simp)))))) t2))))))
      (fun a17=>
      .rt [43,65,277,287,305,314] [] [] [] [] [] (aj (aj a15 (aj (u2 (u2 (u2 (u2 (ag a8 (ag a8 (ag a8 (ag a8 (ag a8 (ag a8 (aj (aj a8 t3) (ag a8 (u2 (ag a16 (ag a16 (ag a16 (ag a16 (u2 (aj a17 (aj a17 (aj a17 (aj a17 (aj a17 (aj a17 (ag a17 s2))))))))))))))))))))))))) (aj s2 (ak (aj (u2 s2) (ak (al (ak (aj (k2 n11) t2))))))))) (al (aj t6 t2)))))
     (fun a16=>
      .rt [43,65,277,287,304] [] [] [] [] [] (aj (aj a15 (aj (u2 (u2 (u2 (u2 (ag a8 (ag a8 (ag a8 (ag a8 (ag a8 (ag a8 (aj (aj a8 t3) (ag a8 (u2 (aj a16 (aj a16 (aj a16 (ag a16 (u2 (ak (k5 (aj t3 s2))))))))))))))))))))) (aj s2 (ak (aj (u2 s2) (ak (al (ak (aj (k2 n11) t2))))))))) (al (aj t6 t2)))))
     (fun a15=>
     .rn 0 [43,65,276] [] [] [] (aj a15 (al (u2 s2))) <|
     .br (fun a16=>
      .br (fun a17=>
      .br (fun a18=>
       .rn 0 [43,65,349,355,365] [] [] [] (aj a16 (al (u2 (u2 (ag a17 (ag a17 (ag a17 (ag a17 (u2 (ag a18 (ag a18 (ag a18 (ag a18 (ag a18 (ag a18 (aj (aj a18 t3) (ag a18 s2))))))))))))))))) <|
       .br (fun a19=>
       .gu fun a20=>
       .gu fun a21=>
       .el fun x199 a22=>
       .rn 0 [43,65,355,365,385] [(199,usA x199)] [] [] (al (u2 (u2 (ag a19 (ag a19 (ag a19 (ag a19 (aj (aj a19 (k2 (aj a20 a21))) (ag a19 (aj (aj a19 (ak (Af (f:=usA) a22))) (ag a19 (al (aj a19 t2))))))))))))) <|
       .br (fun a23=>
        .el fun x207 a24=>
        .rn 1 [43,65,355,365,385,403] [(207,usA x207)] [] [] (aj a23 (aj (u2 (u2 (u2 (u2 (aj (k2 (aj a20 a21)) (u2 (al (ak (Af (f:=usA) a24))))))))) (al (u2 s2)))) <|
        .br (fun a25=>
        .rt [43,65,355,365,385,497] [] [] [] [] [] (aj (aj a25 (al (ak (aj (k2 n11) t2)))) (al (aj t6 t2))))
        (fun a25=>
        .rt [43,65,355,365,385,496] [] [] [] [] [4,5,6,7,8] (aj (aj a25 (al (u2 (aj (k2 n11) t2)))) (al (aj (aj (show(boL cl).length=(boL cl).length from rfl) (aj (show bw.length=(U4 iv bw).length by simp) (aj (show pe.length=(U4 iv pe).length by simp) (aj (show tk.length=(U4 tsA tk).length by simp) (al (show us.length=((U4 usA us).set (0+w2.toNat) (AV.agg [iv 1,bV x207.lv,iv x207.hm,iv 0,iv 0,uV 0,bV false,bV false,iv 0,iv 0,Va [],iv 0,iv 0])).length by simp)))))) t2)))))
       (fun a23=>
        .rn 0 [43,65,355,365,385,402] [] [] [] (aj a23 (al (u2 s2))) <|
        .br (fun a24=>
        .rt [43,65,355,365,385,497] [] [] [] [] [] (aj (aj a24 (al (ak (aj (k2 n11) t2)))) (al (aj t6 t2))))
        (fun a24=>
        .rt [43,65,355,365,385,496] [] [] [] [] [4,5,6,7,8] (aj (aj a24 (al (u2 (aj (k2 n11) t2)))) (al (aj (aj (show(boL cl).length=(boL cl).length from rfl) (aj (show bw.length=(U4 iv bw).length by simp) (aj (show pe.length=(U4 iv pe).length by simp) (aj (show tk.length=(U4 tsA tk).length by simp) (al (show us.length=(U4 usA us).length by simp)))))) t2))))))
       (fun a19=>
       .rn 1 [43,65,355,365,384] [] [] [] (aj (u2 (u2 (aj a19 (aj a19 (aj a19 (aj a19 (aj a19 (aj a19 (aj a19 (aj a19 (al (aj a19 t2)))))))))))) (ak (al (u2 s2)))) <|
       .br (fun a20=>
        .rt [43,65,355,365,384,497] [] [] [] [] [] (aj (aj a20 (al (ak (aj (k2 n11) t2)))) (al (aj t6 t2))))
       (fun a20=>
        .rt [43,65,355,365,384,496] [] [] [] [] [4,5,6,7,8] (aj (aj a20 (al (u2 (aj (k2 n11) t2)))) (al (aj (aj (show(boL cl).length=(boL cl).length from rfl) (aj (show bw.length=(U4 iv bw).length by simp) (aj (show pe.length=(U4 iv pe).length by simp) (aj (show tk.length=(U4 tsA tk).length by simp) (al (show us.length=(U4 usA us).length by simp)))))) t2))))))
      (fun a18=>
       .rt [43,65,349,355,364] [] [] [] [] [] (aj (aj a16 (aj (u2 (u2 (ag a17 (ag a17 (ag a17 (ag a17 (u2 (aj a18 (aj a18 (aj a18 (aj a18 (aj a18 (aj a18 (aj a18 (ag a18 s2))))))))))))))) (aj (u2 (u2 (k3 (k5 (al t3))))) (ak (aj (u2 s2) (ak (al (ak (aj (k2 n11) t2))))))))) (al (aj t6 t2)))))
      (fun a17=>
      .rt [43,65,349,354] [] [] [] [] [] (aj (aj a16 (aj (u2 (u2 (aj a17 (aj a17 (aj a17 (ag a17 (u2 (k2 (k5 (aj t3 s2)))))))))) (aj (u2 (u2 (k3 (k5 (al t3))))) (ak (aj (u2 s2) (ak (al (ak (aj (k2 n11) t2))))))))) (al (aj t6 t2)))))
     (fun a16=>
      .rn 0 [43,65,348] [] [] [] (aj a16 (al (u2 s2))) <|
      .br (fun a17=>
      .br (fun a18=>
       .br (fun a19=>
       .br (fun a20=>
        .br (fun a21=>
        .rn 1 [43,65,417,423,433,449,457] [] [] [] (aj a17 (aj (u2 (u2 (ag a18 (ag a18 (ag a18 (ag a18 (u2 (ag a19 (ag a19 (ag a19 (ag a19 (ag a19 (aj (aj a19 t3) (ag a19 (u2 (ag a20 (ag a20 (ag a20 (ag a20 (aj a21 (aj a21 (aj a21 (aj a21 (aj a21 (aj a21 (aj a21 (aj (aj a20 (aj a21 t2)) (ag a20 s2)))))))))))))))))))))))))))) (al s2))) <|
        .gu fun a22=>
        .gu fun a23=>
        .el fun x246 a24=>
        .rt [43,65,423,433,449,457] [(246,usA x246)] [] [] [] [4,5,6,7,8] (aj (ak (aj (u2 (u2 (u2 (u2 (u2 (u2 (aj (k2 (aj a22 a23)) (u2 (al (k2 (Af (f:=usA) a24))))))))))) (aj (u2 s2) (ak (al (u2 (aj (k2 n11) t2))))))) (al (aj (aj (show(boL cl).length=(boL cl).length from rfl) (aj (show bw.length=(U4 iv bw).length by simp) (aj (show pe.length=(U4 iv pe).length by simp) (aj (show tk.length=(U4 tsA tk).length by simp) (al (show us.length=((U4 usA us).set (0+w2.toNat) (AV.agg [iv x246.s,bV x246.lv,iv w3,iv 0,iv 0,uV 0,bV false,bV false,iv 0,iv 0,Va [],iv 0,iv 0])).length by simp)))))) t2))))
        (fun a21=>
        .gu fun a22=>
        .el fun x233 a23=>
        .rn 1 [43,65,417,423,433,449,456] [(233,sA x233)] [] [] (aj a17 (aj (u2 (u2 (ag a18 (ag a18 (ag a18 (ag a18 (u2 (ag a19 (ag a19 (ag a19 (ag a19 (ag a19 (aj (aj a19 t3) (ag a19 (u2 (ag a20 (ag a20 (ag a20 (ag a20 (ag a21 (ag a21 (ag a21 (ag a21 (aj (aj a21 (k2 (aj a22 (Af (f:=sA) a23)))) (ag a21 (ag a21 (aj (aj a20 (aj a21 t2)) (ag a20 s2)))))))))))))))))))))))))))) (al s2))) <|
        .br (fun a24=>
         .gu fun a25=>
         .gu fun a26=>
         .el fun x246 a27=>
         .rn 1 [43,65,423,433,449,456,477] [(246,usA x246)] [] [] (aj a24 (aj (u2 (u2 (u2 (u2 (u2 (u2 (aj (k2 (aj a25 a26)) (u2 (al (k2 (Af (f:=usA) a27))))))))))) (al (u2 s2)))) <|
         .br (fun a28=>
         .rt [43,65,423,433,449,456,497] [] [] [] [] [] (aj (aj a28 (al (ak (aj (k2 n11) t2)))) (al (aj t6 t2))))
         (fun a28=>
         .rt [43,65,423,433,449,456,496] [] [] [] [] [4,5,6,7,8] (aj (aj a28 (al (u2 (aj (k2 n11) t2)))) (al (aj (aj (show(boL cl).length=(boL cl).length from rfl) (aj (show bw.length=(U4 iv bw).length by simp) (aj (show pe.length=(U4 iv pe).length by simp) (aj (show tk.length=(U4 tsA tk).length by simp) (al (show us.length=((U4 usA us).set (0+w2.toNat) (AV.agg [iv x246.s,bV x246.lv,iv w3,iv 0,iv 0,uV 0,bV false,bV false,iv 0,iv 0,Va [],iv 0,iv 0])).length by simp)))))) t2)))))
        (fun a24=>
         .rn 0 [43,65,423,433,449,456,476] [] [] [] (aj a24 (al (u2 s2))) <|
         .br (fun a25=>
         .rt [43,65,423,433,449,456,497] [] [] [] [] [] (aj (aj a25 (al (ak (aj (k2 n11) t2)))) (al (aj t6 t2))))
         (fun a25=>
         .rt [43,65,423,433,449,456,496] [] [] [] [] [4,5,6,7,8] (aj (aj a25 (al (u2 (aj (k2 n11) t2)))) (al (aj (aj (show(boL cl).length=(boL cl).length from rfl) (aj (show bw.length=(U4 iv bw).length by simp) (aj (show pe.length=(U4 iv pe).length by simp) (aj (show tk.length=(U4 tsA tk).length by simp) (al (show us.length=(U4 usA us).length by simp)))))) t2)))))))
       (fun a20=>
        .rt [43,65,417,423,433,448] [] [] [] [] [] (aj (aj a17 (aj (u2 (u2 (ag a18 (ag a18 (ag a18 (ag a18 (u2 (ag a19 (ag a19 (ag a19 (ag a19 (ag a19 (aj (aj a19 t3) (ag a19 (u2 (aj a20 (aj a20 (aj a20 (aj a20 (k2 (k5 (aj a20 (ag a20 s2))))))))))))))))))))))) (aj s2 (ak (aj (u2 s2) (ak (al (ak (aj (k2 n11) t2))))))))) (al (aj t6 t2)))))
       (fun a19=>
       .rt [43,65,417,423,432] [] [] [] [] [] (aj (aj a17 (aj (u2 (u2 (ag a18 (ag a18 (ag a18 (ag a18 (u2 (aj a19 (aj a19 (aj a19 (aj a19 (aj a19 (aj a19 (ag a19 (u2 (k2 (k5 (k5 (aj t3 s2))))))))))))))))))) (aj s2 (ak (aj (u2 s2) (ak (al (ak (aj (k2 n11) t2))))))))) (al (aj t6 t2)))))
      (fun a18=>
       .rt [43,65,417,422] [] [] [] [] [] (aj (aj a17 (aj (u2 (u2 (aj a18 (aj a18 (aj a18 (ag a18 (u2 (ak (k5 (aj t3 (u2 (k2 (k5 (k5 (aj t3 s2))))))))))))))) (aj s2 (ak (aj (u2 s2) (ak (al (ak (aj (k2 n11) t2))))))))) (al (aj t6 t2)))))
      (fun a17=>
      .rt [43,65,416] [] [] [] [] [4,5,6,7,8] (aj (aj a17 (aj (u2 s2) (ak (al (u2 (aj (k2 n11) t2)))))) (al (aj (aj (show(boL cl).length=(boL cl).length from rfl) (aj (show bw.length=(U4 iv bw).length by simp) (aj (show pe.length=(U4 iv pe).length by simp) (aj (show tk.length=(U4 tsA tk).length by simp) (al (show us.length=(U4 usA us).length by simp)))))) t2)))))))))))))
 (fun a8=>
  .rn 3 [42,64] [] [] [] (aj (u2 (u2 (u2 (u2 (aj a8 (aj a8 (aj a8 (aj a8 (aj a8 (aj a8 (ag a8 (u2 (u2 (u2 (u2 (aj a8 (aj a8 (aj a8 (aj a8 (aj a8 (aj a8 (ag a8 (u2 s2))))))))))))))))))))))) (u2 (aj (u2 s2) (al (u2 s2))))) <|
  .br (fun a9=>
  .rt [42,64,85] [] [] [] [] [] (aj (aj a9 (aj (u2 (u2 (k3 (aj t3 (u2 (ak (k5 (aj t3 s2)))))))) (aj s2 (ak (aj (u2 s2) (ak (al (ak (aj (k2 n11) t2))))))))) (al (aj t6 t2))))
  (fun a9=>
  .rn 0 [42,64,84] [] [] [] (aj a9 (al (u2 s2))) <|
  .br (fun a10=>
   .rt [42,64,147] [] [] [] [] [] (aj (aj a10 (ak (aj (u2 (u2 (ak (k5 (k5 (k5 (aj t3 s2))))))) (aj s2 (ak (aj (u2 s2) (ak (al (ak (aj (k2 n11) t2)))))))))) (al (aj t6 t2))))
  (fun a10=>
   .rn 0 [42,64,146] [] [] [] (aj a10 (al (u2 s2))) <|
   .br (fun a11=>
   .rt [42,64,147] [] [] [] [] [] (aj (aj a11 (ak (aj (u2 (u2 (ak (k5 (k5 (k5 (aj t3 s2))))))) (aj s2 (ak (aj (u2 s2) (ak (al (ak (aj (k2 n11) t2)))))))))) (al (aj t6 t2))))
   (fun a11=>
   .rn 0 [42,64,146] [] [] [] (aj a11 (al (u2 s2))) <|
   .br (fun a12=>
    .rt [42,64,147] [] [] [] [] [] (aj (aj a12 (aj (u2 (u2 (ak (k5 (k5 (k5 (aj t3 s2))))))) (aj s2 (ak (aj (u2 s2) (ak (al (ak (aj (k2 n11) t2))))))))) (al (aj t6 t2))))
   (fun a12=>
    .rn 0 [42,64,146] [] [] [] (aj a12 (al (u2 s2))) <|
    .br (fun a13=>
    .rt [42,64,213] [] [] [] [] [] (aj (aj a13 (aj (u2 s2) (aj s2 (ak (aj (u2 s2) (ak (al (ak (aj (k2 n11) t2))))))))) (al (aj t6 t2))))
    (fun a13=>
    .rn 0 [42,64,212] [] [] [] (aj a13 (al (u2 s2))) <|
    .br (fun a14=>
     .rt [42,64,245] [] [] [] [] [] (aj (aj a14 (aj (u2 s2) (aj s2 (ak (aj (u2 s2) (ak (al (ak (aj (k2 n11) t2))))))))) (al (aj t6 t2))))
    (fun a14=>
     .rn 0 [42,64,244] [] [] [] (aj a14 (al (u2 s2))) <|
     .br (fun a15=>
     .rt [42,64,277,286] [] [] [] [] [] (aj (aj a15 (aj (u2 (u2 (u2 (u2 (aj a8 (aj a8 (aj a8 (aj a8 (aj a8 (aj a8 (aj a8 (ag a8 (u2 (k3 (aj t3 (u2 (ak (k5 (aj t3 s2))))))))))))))))))) (aj s2 (ak (aj (u2 s2) (ak (al (ak (aj (k2 n11) t2))))))))) (al (aj t6 t2))))
     (fun a15=>
     .rn 0 [42,64,276] [] [] [] (aj a15 (al (u2 s2))) <|
     .br (fun a16=>
      .rt [42,64,349] [] [] [] [] [] (aj (aj a16 (aj (u2 (u2 (k3 (aj t3 (u2 (k2 (k5 (aj t3 s2)))))))) (aj (u2 (u2 (k3 (k5 (al t3))))) (ak (aj (u2 s2) (ak (al (ak (aj (k2 n11) t2))))))))) (al (aj t6 t2))))
     (fun a16=>
      .rn 0 [42,64,348] [] [] [] (aj a16 (al (u2 s2))) <|
      .br (fun a17=>
      .rt [42,64,417] [] [] [] [] [] (aj (aj a17 (aj (u2 (u2 (k3 (aj t3 (u2 (ak (k5 (aj t3 (u2 (k2 (k5 (k5 (aj t3 s2))))))))))))) (aj s2 (ak (aj (u2 s2) (ak (al (ak (aj (k2 n11) t2))))))))) (al (aj t6 t2))))
      (fun a17=>
      .rt [42,64,416] [] [] [] [] [4,5,6,7,8] (aj (aj a17 (aj (u2 s2) (ak (al (u2 (aj (k2 n11) t2)))))) (al (aj (aj (show(boL cl).length=(boL cl).length from rfl) (aj (show bw.length=(U4 iv bw).length by simp) (aj (show pe.length=(U4 iv pe).length by simp) (aj (show tk.length=(U4 tsA tk).length by simp) (al (show us.length=(U4 usA us).length by simp)))))) t2))))))))))))))) (by kernel_rfl)) h
abbrev FaP(n:Aa):={p:Option LgD×Int // (∀x,p.1=some x->LgV n x)/\(p.1=none->p.2≠0)}
def faR{n:Aa}(p:FaP n):Ret:=([],.tup [match p.1.1 with | none=>.agg [.nils,.nils,.nils,.nils,.nils] | some l=>lgA l,.int .i64 p.1.2])
theorem faN{n:Aa}{σ:Type}{step:σ->Option (σ⊕Ret)}{e:Int}(he:e≠0):∃p:FaP n,Ac step (some (.inr ([],.tup [.agg [.nils,.nils,.nils,.nils,.nils],.int .i64 e]))) (faR p):=⟨⟨(none,e),fun x h=>(by cases h),fun _=>he⟩,.ret _⟩
theorem faL{n:Aa}{σ:Type}{step:σ->Option (σ⊕Ret)}{x:LgD}(hV:LgV n x){r:Ret}(h:r=([],.tup [lgA x,.int .i64 0])):∃p:FaP n,Ac step (some (.inr r)) (faR p):=⟨⟨(some x,0),fun y hy=>(by cases hy;exact hV),fun h=>(by cases h)⟩,by rw[h];exact .ret _⟩
theorem LgV.setT{n:Aa}{cl:List Bool}{bw pe:List Int}{tk:List TsD}{us:List UsD}(hV:LgV n ⟨cl,bw,pe,tk,us⟩){i:Nat}{y:TsD}{z q:Int}(hy:TvP y/\stB n y.p/\stB n y.d)(hz:0<=z/\z<=5)(hq : -1<=q/\q<8):LgV n ⟨cl,bw,pe,tk.set i ⟨y.p,y.d,z,q,y.ov⟩,us⟩:=by have ht:=hV.tl;refine hV.tk (by rw[UL];exact ht) (KI hV.tv ⟨?_,hy.2.1,hy.2.2⟩);have:=hy.1;unfold TvP at this ⊢;simp only;omega
theorem LgV.setU{n:Aa}{cl:List Bool}{bw pe:List Int}{tk:List TsD}{us:List UsD}(hV:LgV n ⟨cl,bw,pe,tk,us⟩){i:Nat}{z q:Int}{lv:Bool}(hz:0<=z/\z<=3)(hq : -2<=q/\(0<=q->dpB n q=true)):LgV n ⟨cl,bw,pe,tk,us.set i ⟨z,lv,q⟩⟩:=by have ht:=hV.ul;exact hV.us' (by rw[UL];exact ht) (KI hV.uv ⟨hz.1,hz.2,hq.1,hq.2⟩)
theorem imm3B(a:List Bool)(b c:List Int):∀(blk:Blk),blk∈[Blk.mk (boL a) 1 true true none,Blk.mk (b.map (AV.int .i64)) 1 true true none,Blk.mk (c.map (AV.int .i64)) 1 true true none]->A5 blk:=fun blk hb=>by
 rcases UG.1 hb with h | hb
 .exact Lf a blk (by rw[h];exact T7.2 rfl)
 rcases UG.1 hb with h | hb
 .exact NV b blk (by rw[h];exact T7.2 rfl)
 .exact NV c blk hb
theorem fa6_ex{n:Aa}(cl:List Bool)(bw pe:List Int)(tk:List TsD)(us:List UsD)(w0 w1 w2 w3:Int)(hV:LgV n ⟨cl,bw,pe,tk,us⟩):∃p:FaP n,Ac emT (Kv n cl bw pe tk us w0 w1 w2 w3) (faR p):=by
 have hb:=hV.bd;have hp:=hV.pb;have hu:=hV.ul;have ht:=hV.tl;have htv:=hV.tv;have huv:=hV.uv;simp only at hb hp hu ht htv huv;have hL:=A9 cl;have ha:=aftZ_rng w1;unfold Kv;refine Ah hV (Am (fun _=>faN (by decide)) fun _=>Ah (by omega) (Ah (by omega) (Ah (by omega) (Ah (by omega) (Ah (by omega) (Ah (fun b h=>(hp b h).1) ?_))))));have hs:∀{σ:Type} {step:σ->Option (σ⊕Ret)},∃p:FaP n,Ac step (some (.inr ([],.tup [lgA ⟨cl,bw,pe,tk,us⟩,.int .i64 0]))) (faR p):=faL hV rfl
 repeat' (first
  | exact faN (by decide)
  | exact hs
  | refine BK (fun h=>?_) (fun h=>?_)
  | refine Am (fun h=>?_) (fun h=>?_)
  | refine Ah (by first | exact imm3B _ _ _ | (simp only[iN,hL] at *;omega)) ?_
  | refine AZ (by simp only[iN,Ui,UL] at *;omega) (fun x hx=>?_))
 .rename_i y hy;have hy':=htv y (Uj hy);have V1:=hV.setT (i:=0+w2.toNat) (y:=y) (z:=1) (q:=y.q) hy' (by omega) (by have:=hy'.1;unfold TvP at this;omega);have hx':=V1.tv x (Uj hx);exact faL (V1.setT (i:=0+w2.toNat) (y:=x) (z:=x.s) (q:=w3) hx' (by have:=hx'.1;unfold TvP at this;omega) (by simp only[iN,hL,Ui] at *;omega)) (by simp only[lgA,U0];rfl)
 .have hx':=htv x (Uj hx);exact faL (hV.setT (i:=0+w2.toNat) (y:=x) (z:=BH w1) (q:=x.q) hx' ha (by have:=hx'.1;unfold TvP at this;omega)) (by simp only[lgA,U0];rfl)
 .have hx':=htv x (Uj hx);exact faL (hV.setT (i:=0+w2.toNat) (y:=x) (z:=BH w1) (q:=x.q) hx' ha (by have:=hx'.1;unfold TvP at this;omega)) (by simp only[lgA,U0];rfl)
 .have hx':=htv x (Uj hx);exact faL (hV.setT (i:=0+w2.toNat) (y:=x) (z:=BH w1) (q:=x.q) hx' ha (by have:=hx'.1;unfold TvP at this;omega)) (by simp only[lgA,U0];rfl)
 .have hx':=htv x (Uj hx);exact faL (hV.setT (i:=0+w2.toNat) (y:=x) (z:=BH w1) (q:=x.q) hx' ha (by have:=hx'.1;unfold TvP at this;omega)) (by simp only[lgA,U0];rfl)
 .have hx':=htv x (Uj hx);exact faL (hV.setT (i:=0+w2.toNat) (y:=x) (z:=BH w1) (q:=x.q) hx' ha (by have:=hx'.1;unfold TvP at this;omega)) (by simp only[lgA,U0];rfl)
 .rename_i y hy;have hy':=huv y (Uj hy);have V1:=hV.setU (i:=0+w2.toNat) (z:=2) (lv:=y.lv) (q:=y.hm) (by omega) ⟨hy'.2.2.1,hy'.2.2.2⟩;have hx':=V1.uv x (Uj hx);exact faL (V1.setU (i:=0+w2.toNat) (z:=x.s) (lv:=x.lv) (q:= -2) ⟨hx'.1,hx'.2.1⟩ ⟨by omega,fun h=>by omega⟩) (by simp only[lgA,U0];rfl)
 .rename_i y hy;have hy':=huv y (Uj hy);have V1:=hV.setU (i:=0+w2.toNat) (z:=3) (lv:=y.lv) (q:=y.hm) (by omega) ⟨hy'.2.2.1,hy'.2.2.2⟩;have hx':=V1.uv x (Uj hx);exact faL (V1.setU (i:=0+w2.toNat) (z:=x.s) (lv:=x.lv) (q:= -2) ⟨hx'.1,hx'.2.1⟩ ⟨by omega,fun h=>by omega⟩) (by simp only[lgA,U0];rfl)
 .exact faL (hV.sig (clS_ok (c:=w2) (r:=w3) hV.sg (by simp only[iN,hL,Ui] at *;omega) (by simp only[iN,hL,Ui] at *;omega))) rfl
 .have hx':=huv x (Uj hx);exact faL (hV.setU (i:=0+w2.toNat) (z:=1) (lv:=x.lv) (q:=x.hm) (by omega) ⟨hx'.2.2.1,hx'.2.2.2⟩) (by simp only[lgA,U0];rfl)
 .have hx':=huv x (Uj hx);exact faL (hV.setU (i:=0+w2.toNat) (z:=x.s) (lv:=x.lv) (q:=w3) ⟨hx'.1,hx'.2.1⟩ ⟨by omega,fun h=>by omega⟩) (by simp only[lgA,U0];rfl)
 .rename_i h0 z hz h1;have hx':=huv x (Uj hx);exact faL (hV.setU (i:=0+w2.toNat) (z:=x.s) (lv:=x.lv) (q:=w3) ⟨hx'.1,hx'.2.1⟩ ⟨by omega,fun h=>Oh h hz h1⟩) (by simp only[lgA,U0];rfl)
theorem Lc(n:Aa)(cl:List Bool)(bw pe:List Int)(tk:List TsD)(us:List UsD)(w0 w1 w2 w3:Int):∃p:LgD×Int,LgV n ⟨cl,bw,pe,tk,us⟩->(p.2=0->LgV n p.1)/\CT Vb 23 [] [Ai n,lgA ⟨cl,bw,pe,tk,us⟩,enA w0 w1 w2 w3] [] (.tup [lgA p.1,.int .i64 p.2]):=by
 by_cases hV:LgV n ⟨cl,bw,pe,tk,us⟩
 .obtain⟨⟨⟨o,e⟩,h1,h2⟩,hp⟩:=fa6_ex cl bw pe tk us w0 w1 w2 w3 hV;have k:=fa6_ct n cl bw pe tk us w0 w1 w2 w3 _ hp;cases o with
  | none=>exact⟨(⟨[],[],[],[],[]⟩,e),fun _=>⟨fun h=>absurd h (h2 rfl),CT.wkT k⟩⟩
  | some l=>exact⟨(l,e),fun _=>⟨fun _=>h1 l rfl,k⟩⟩
 .exact⟨(⟨cl,bw,pe,tk,us⟩,0),fun q=>absurd q hV⟩
@[irreducible] def DV(n:Aa)(cl:List Bool)(bw pe:List Int)(tk:List TsD)(us:List UsD)(w0 w1 w2 w3:Int):LgD:=(Classical.choose (Lc n cl bw pe tk us w0 w1 w2 w3)).1
@[irreducible] def JU(n:Aa)(cl:List Bool)(bw pe:List Int)(tk:List TsD)(us:List UsD)(w0 w1 w2 w3:Int):Int:=(Classical.choose (Lc n cl bw pe tk us w0 w1 w2 w3)).2
theorem fa6_v{n:Aa}{cl:List Bool}{bw pe:List Int}{tk:List TsD}{us:List UsD}{w0 w1 w2 w3:Int}(hV:LgV n ⟨cl,bw,pe,tk,us⟩):JU n cl bw pe tk us w0 w1 w2 w3=0->LgV n (DV n cl bw pe tk us w0 w1 w2 w3):=by unfold DV JU;exact(UP (Lc n cl bw pe tk us w0 w1 w2 w3) hV).1
theorem fa6_c(n:Aa)(cl:List Bool)(bw pe:List Int)(tk:List TsD)(us:List UsD)(w0 w1 w2 w3:Int)(hV:LgV n ⟨cl,bw,pe,tk,us⟩):CT Vb 23 [] [Ai n,lgA ⟨cl,bw,pe,tk,us⟩,enA w0 w1 w2 w3] [] (.tup [lgA (DV n cl bw pe tk us w0 w1 w2 w3),.int .i64 (JU n cl bw pe tk us w0 w1 w2 w3)]):=by unfold DV JU;exact(UP (Lc n cl bw pe tk us w0 w1 w2 w3) hV).2
inductive Gq where | l0 (v0:Int) (v1:List UsD)
def Ox(n:Aa):Gq->St | .l0 v0 v1=>St.mk 46 [(1,AV.ptr 0 0 0),(2,AV.ptr 1 0 0),(6,AV.ptr 2 0 0),(7,iv v0)] [some (bK [Ai n] 8),some (bK [AV.agg [AV.nils,AV.nils,AV.nils,AV.nils,AV.nils]] 5),some (Blk.mk [AV.agg [Va (boL (nsS n).cl),Va (U4 iv (nsS n).bw),Va (U4 iv (nsS n).pe),AV.nils,AV.sl 3 0 v1.length]] 5 false true none),some (bK (U4 usA v1) 13)]
def N3(n:Aa):Option (Gq⊕Ret):=gu (RwV n) <|br (nsE n != 0) (some (.inr ([],AV.tup [AV.agg [AV.nils,AV.nils,AV.nils,AV.nils,AV.nils],iV (nsE n)]))) (some (.inl (.l0 ((0:Int)) ([]))))
def Gh(n:Aa)(v0:Int)(v1:List UsD):Option (Gq⊕Ret):=br (decide (v0<iN (U4 iV n.rs).length)) (gu (0<=v0) <|el (n.rs) (v0.toNat) fun(x33:Int)=>gu (Aq n) <|gu (-1000<=x33/\x33<=1000) <|gu ((U4 usA v1).length+[AV.agg [iV 1,bV false,iV (plI n x33),iV 0,iV 0,uV 0,bV false,bV false,iV 0,iV 0,Va [],iV 0,iV 0]].length<=9223372036854775807) <|gu (((U4 usA v1).length+[AV.agg [iV 1,bV false,iV (plI n x33),iV 0,iV 0,uV 0,bV false,bV false,iV 0,iV 0,Va [],iV 0,iV 0]].length) * 112<=140737488355328) <|some (.inl (.l0 (i64.wrap (v0+1)) (v1++[UsD.mk 1 false (plI n x33)])))) (some (.inr ([],AV.tup [AV.agg [Va (boL (nsS n).cl),Va (U4 iV (nsS n).bw),Va (U4 iV (nsS n).pe),AV.nils,Va (U4 usA v1)],iV 0])))
def LM(n:Aa):Gq->Option (Gq⊕Ret) | .l0 v0 v1=>Gh n v0 v1
theorem ne6_ct(n:Aa)(r:Ret)(h:Ac (LM n) (N3 n) r):CT Vb 21 ([]) ([Ai n]) r.1 r.2:=
 CT.mach (fn:=Tryz.f21) (c:=zB Tryz.f21) (S:=(Ox n)) (hd:=Gq.ctorIdx) Tryz.func21 (by kernel_rfl) (nL rfl)
  (fun s o ho=>match s,ho with
 | .l0 v0 v1,ho=>Scr.ok (X:=Gh n v0 v1) ho mix (
 .rn 0 [] [] [] [] (al (u2 (u2 (u2 (u2 (al t3)))))) <|
 .br (fun a0=>
 .gu fun a1=>
 .el fun x33 a2=>
 .gu fun a3=>
 .gu fun a4=>
 have c0:=Su a3 x33 a4;
 .rn 0 [51] [(33,iv x33)] [(35,hK c0 [] [])] [] (aj a0 (al (u2 (u2 (u2 (u2 (aj (k2 (aj a1 (Af (f:=iv) a2))) (u2 (aj (k2 (aj t9 (ak (al (c0))))) (u2 (u2 (u2 (u2 s2))))))))))))) <|
 .gu fun a5=>
 .gu fun a6=>
 .lq [] [(42,AV.tup [])] [] [] [] [0,1,2,5] [1,2,6,7] (up [] [(2,[AV.agg [Va (boL (nsS n).cl),Va (U4 iv (nsS n).bw),Va (U4 iv (nsS n).pe),AV.nils,AV.sl 3 0 ((U4 usA v1).length+[AV.agg [iv 1,bV false,iv (plI n x33),iv 0,iv 0,uV 0,bV false,bV false,iv 0,iv 0,Va [],iv 0,iv 0]].length)]]),(3,U4 usA v1++[AV.agg [iv 1,bV false,iv (plI n x33),iv 0,iv 0,uV 0,bV false,bV false,iv 0,iv 0,Va [],iv 0,iv 0]])] (Ox n (.l0 (i64.wrap (v0+1)) (v1++[UsD.mk 1 false (plI n x33)])))) (aj (aj (u2 (u2 (u2 (u2 (u2 (aj (k2 (aj (show(U4 usA v1).length=v1.length by simp) (aj (aj (show nat_lit 13=nat_lit 13 from rfl) (show 1<=[AV.agg [iv 1,bV false,iv (plI n x33),iv 0,iv 0,uV 0,bV false,bV false,iv 0,iv 0,Va [],iv 0,iv 0]].length by simp)) (aj a5 a6)))) (u2 (al t3)))))))) (al (u2 (u2 s2)))) (ak (k5 (aj (al t6) t2)))) (by simp[up,upF,upV,upH,upB,Ox,gL,boL,lI,sA,bA,tsA,usA]))
 (fun a0=>
 .rt [50] [] [] [] [] [3] (aj (aj a0 (al (u2 (aj (k2 n11) t2)))) (al (aj (ak (k3 (al (show v1.length=(U4 usA v1).length by simp)))) t2))))) (by kernel_rfl)
  )
  (fun o ho=>Scr.ok (X:=N3 n) ho mix (
 .rn 0 [] [] [] [] (al (u2 t3)) <|
 .gu fun a0=>
 have c0:=r20n_c a0;
 .rn 1 [] [] [(12,hK c0 [] [])] [] (aj (u2 (aj (ak (aj t9 (al (c0)))) (u2 (u2 (u2 (ak (aj (k2 n11) s2))))))) (al (u2 s2))) <|
 .br (fun a1=>
 .rt [33] [] [] [] [] [] (aj (aj a1 (al (ak (u2 (aj (k2 n11) s2))))) (al (aj t6 t2))))
 (fun a1=>
 .lp [32] [] [] [] [(5006,13)] [0,1,3,4] [1,2,6,7] (aj (aj a1 (aj (u2 (u2 (ak (al (k2 n11))))) s2)) (ak (k5 (aj (al t6) t2)))))) (by kernel_rfl)) h
def KS(L:List Int)(kk:Nat)(n:Aa):Option (Empty⊕Ret):=gu (kk<9223372036854775807) <|gu (0<=Ae L kk (iN (U4 sA n.ss).length)) <|el (n.ss) ((Ae L kk (iN (U4 sA n.ss).length)).toNat) fun(x13:Av)=>br (x13.dep) (gu (kk+1<9223372036854775807) <|br (decide (0<Ae L (kk+1) 3)) (gu (kk+1+1<9223372036854775807) <|gu (0<=i64.wrap (1+Ae L (kk+1+1) 2)) <|el (n.ss) ((i64.wrap (1+Ae L (kk+1+1) 2)).toNat) fun(x27:Av)=>some (.inr ([some (bK [AV.agg [Va (U4 iV L),iV (iN (kk+1+1+1))]] 2)],AV.str x27.nm))) (some (.inr ([some (bK [AV.agg [Va (U4 iV L),iV (iN (kk+1+1))]] 2)],AV.str x13.nm)))) (some (.inr ([some (bK [AV.agg [Va (U4 iV L),iV (iN (kk+1))]] 2)],AV.str x13.nm)))
theorem stn_ct(L:List Int)(kk:Nat)(n:Aa)(r:Ret)(h:Ac emT (KS L kk n) r):CT Vb 40 ([some (AE L kk)]) ([.ptr 0 0 0,Ai n]) r.1 r.2:=
 CT.mach (fn:=Tryz.f40) (c:=zB Tryz.f40) (S:=emS) (hd:=emH) Tryz.func40 (by kernel_rfl) (nL rfl)
  (fun s o ho=>match s,ho with
   | x,_=>x.elim)
  (fun o ho=>Scr.ok (X:=KS L kk n) ho mix (
 .rn 0 [] [] [] [] (al (u2 t2)) <|
 .gu fun a0=>
 .gu fun a1=>
 .el fun x13 a2=>
 have c0:=AF (L) (kk) (iN (U4 sA n.ss).length) a0;
 .rn 0 [] [(13,sA x13)] [(12,hK c0 [0] [])] [] (al (u2 (u2 (u2 (u2 (u2 (u2 (aj (k5 (al (c0))) (aj (k2 (aj a1 (Af (f:=sA) a2))) (u2 (ak (al (k2 n11))))))))))))) <|
 .br (fun a3=>
 .gu fun a4=>
 have c1:=AF (L) (kk+1) (3) a4;
 .rn 0 [35] [] [(19,hK c1 [0] [])] [] (al (u2 (u2 (u2 (ag a3 (aj (aj a3 (ak (k3 (al (c1))))) (ag a3 (al (aj a3 t2))))))))) <|
 .br (fun a5=>
  .gu fun a6=>
  .gu fun a7=>
  .el fun x27 a8=>
  have c2:=AF (L) (kk+1+1) (2) a6;
  .rt [35,43] [(27,sA x27)] [(25,hK c2 [0] [])] [] [0] [] (aj (aj a5 (aj (u2 (u2 (u2 (aj (ak (k3 (al (c2)))) (u2 (aj (k2 (aj a7 (Af (f:=sA) a8))) (u2 (al (k2 (show Nat.le 1 [AV.agg [AV.str x13.nm,bV x13.dep,iv x13.i,iv x13.o,iv x13.k,iv x13.b]].length from(nL rfl))))))))))) (al (u2 (u2 s2))))) t3))
 (fun a5=>
  .rt [35,42] [] [] [] [0] [] (aj (aj a5 (al (u2 (u2 s2)))) t3)))
 (fun a3=>
 .rt [34] [] [] [] [0] [] (aj (aj (u2 (u2 (u2 (aj a3 (aj a3 (aj a3 (al (aj a3 t2)))))))) (ak (al (u2 (u2 s2))))) t3))) (by kernel_rfl)) h
def Ku(L:List Int)(kk:Nat)(n:Aa)(cl:List Bool)(bw pe:List Int)(tk:List TsD)(us:List UsD):Option (Empty⊕Ret):=gu (kk<9223372036854775807) <|gu (kk+1<9223372036854775807) <|gu (kk+1+1<9223372036854775807) <|gu (kk+1+1+1<9223372036854775807) <|br (Ae L (kk+1+1+1) 5==0) (gu (Aq n) <|gu (kk+1+1+1+1<9223372036854775807) <|gu (kk+1+1+1+1+1<9223372036854775807) <|some (.inr ([some (bK [AV.agg [Va (U4 iV L),iV (iN (kk+1+1+1+1+1+1))]] 2)],AV.agg [iV 0,iV 7,iV (Ae L (kk+1+1+1+1) (iN (Al n))),iV (i64.wrap (Ae L (kk+1+1+1+1+1) (i64.wrap (iN (U4 usA us).length+1))-1))]))) (br (Ae L (kk+1+1+1) 5==2) (gu (kk+1+1+1+1<9223372036854775807) <|gu (Aq n) <|gu (kk+1+1+1+1+1<9223372036854775807) <|some (.inr ([some (bK [AV.agg [Va (U4 iV L),iV (iN (kk+1+1+1+1+1+1))]] 2)],AV.agg [iV 0,iV 11,iV (Ae L (kk+1+1+1+1) (iN (U4 usA us).length)),iV (Ae L (kk+1+1+1+1+1) (iN (Al n)))]))) (br (Ae L (kk+1+1+1) 5==1) (gu (kk+1+1+1+1<9223372036854775807) <|gu (kk+1+1+1+1+1<9223372036854775807) <|some (.inr ([some (bK [AV.agg [Va (U4 iV L),iV (iN (kk+1+1+1+1+1+1))]] 2)],AV.agg [iV 0,iV 19,iV (Ae L (kk+1+1+1+1) (iN (U4 usA us).length)),iV (i64.wrap (Ae L (kk+1+1+1+1+1) (i64.wrap (iN (U4 sA n.ss).length+2))-2))]))) (some (.inr ([some (bK [AV.agg [Va (U4 iV L),iV (iN (kk+1+1+1+1))]] 2)],AV.agg [iV 0,iV (i64.wrap (1+Ae L kk 8)),iV (Ae L (kk+1) (i64.wrap (iN (U4 tsA tk).length+1))),iV (Ae L (kk+1+1) (i64.wrap (iN (U4 usA us).length+1)))])))))
theorem fct_ct(L:List Int)(kk:Nat)(n:Aa)(cl:List Bool)(bw pe:List Int)(tk:List TsD)(us:List UsD)(r:Ret)(h:Ac emT (Ku L kk n cl bw pe tk us) r):CT Vb 24 ([some (AE L kk)]) ([.ptr 0 0 0,Ai n,lgA ⟨cl,bw,pe,tk,us⟩]) r.1 r.2:=
 CT.mach (fn:=Tryz.f24) (c:=zB Tryz.f24) (S:=emS) (hd:=emH) Tryz.func24 (by kernel_rfl) (nL rfl)
  (fun s o ho=>match s,ho with
   | x,_=>x.elim)
  (fun o ho=>Scr.ok (X:=Ku L kk n cl bw pe tk us) ho mix (
 .rn 0 [] [] [] [] (al (u2 (u2 t2))) <|
 .gu fun a0=>
 .gu fun a1=>
 .gu fun a2=>
 have c0:=AF (L) (kk) (8) a0;
 have c1:=AF (L) (kk+1) (i64.wrap (iN (U4 tsA tk).length+1)) a1;
 have c2:=AF (L) (kk+1+1) (i64.wrap (iN (U4 usA us).length+1)) a2;
 .rn 0 [] [] [(9,hK c0 [0] []),(16,hK c1 [0] []),(22,hK c2 [0] [])] [] (al (u2 (aj (ak (k3 (al (c0)))) (u2 (u2 (u2 (u2 (u2 (u2 (aj (k5 (al (c1))) (u2 (u2 (u2 (u2 (u2 (aj (k5 (al (c2))) (aj t4 (ak (al (k2 n11)))))))))))))))))))) <|
 .gu fun a3=>
 have c3:=AF (L) (kk+1+1+1) (5) a3;
 .rn 1 [] [] [(25,hK c3 [0] [])] [] (aj (u2 (al (ak (k3 (al (c3)))))) (al (u2 s2))) <|
 .br (fun a4=>
 .gu fun a5=>
 .gu fun a6=>
 .gu fun a7=>
 have c4:=FP a5;
 have c5:=AF (L) (kk+1+1+1+1) (iN (Al n)) a6;
 have c6:=AF (L) (kk+1+1+1+1+1) (i64.wrap (iN (U4 usA us).length+1)) a7;
 .rt [53] [] [(30,hK c4 [] []),(31,hK c5 [0] []),(37,hK c6 [0] [])] [] [0] [] (aj (aj a4 (aj (u2 (u2 (aj (ak (aj t9 (al (c4)))) (aj (k5 (al (c5))) (u2 (u2 (u2 (u2 (u2 (aj (k5 (al (c6))) (u2 (aj t3 (al (k2 (show Nat.le 1 [AV.agg [iv 0,iv (i64.wrap (1+Ae L kk 8)),iv (Ae L (kk+1) (i64.wrap (iN (U4 tsA tk).length+1))),iv (Ae L (kk+1+1) (i64.wrap (iN (U4 usA us).length+1)))]].length from(nL rfl)))))))))))))))) (al (u2 (al (k2 n11)))))) (aj t5 t2)))
 (fun a4=>
 .rn 0 [52] [] [] [] (aj a4 (al (u2 s2))) <|
 .br (fun a5=>
  .gu fun a6=>
  .gu fun a7=>
  .gu fun a8=>
  have c4:=AF (L) (kk+1+1+1+1) (iN (U4 usA us).length) a6;
  have c5:=FP a7;
  have c6:=AF (L) (kk+1+1+1+1+1) (iN (Al n)) a8;
  .rt [81] [] [(46,hK c4 [0] []),(49,hK c5 [] []),(50,hK c6 [0] [])] [] [0] [] (aj (aj a5 (aj (u2 (u2 (u2 (u2 (aj (k5 (al (c4))) (u2 (u2 (aj (ak (aj t9 (al (c5)))) (aj (k5 (al (c6))) (aj t3 (al (k2 (show Nat.le 1 [AV.agg [iv 0,iv (i64.wrap (1+Ae L kk 8)),iv (Ae L (kk+1) (i64.wrap (iN (U4 tsA tk).length+1))),iv (Ae L (kk+1+1) (i64.wrap (iN (U4 usA us).length+1)))]].length from(nL rfl)))))))))))))) (al (u2 (al (k2 n11)))))) (aj t5 t2)))
 (fun a5=>
  .rn 0 [80] [] [] [] (aj a5 (al (u2 s2))) <|
  .br (fun a6=>
  .gu fun a7=>
  .gu fun a8=>
  have c4:=AF (L) (kk+1+1+1+1) (iN (U4 usA us).length) a7;
  have c5:=AF (L) (kk+1+1+1+1+1) (i64.wrap (iN (U4 sA n.ss).length+2)) a8;
  .rt [105] [] [(58,hK c4 [0] []),(64,hK c5 [0] [])] [] [0] [] (aj (aj a6 (aj (u2 (u2 (u2 (u2 (aj (k5 (al (c4))) (u2 (u2 (u2 (u2 (u2 (aj (k5 (al (c5))) (u2 (aj t3 (al (k2 (show Nat.le 1 [AV.agg [iv 0,iv (i64.wrap (1+Ae L kk 8)),iv (Ae L (kk+1) (i64.wrap (iN (U4 tsA tk).length+1))),iv (Ae L (kk+1+1) (i64.wrap (iN (U4 usA us).length+1)))]].length from(nL rfl))))))))))))))))) (al (u2 (al (k2 n11)))))) (aj t5 t2)))
  (fun a6=>
  .rt [104] [] [] [] [0] [] (aj (aj a6 (al (u2 (al (k2 n11))))) (aj t5 t2)))))) (by kernel_rfl)) h
end Go.Proofs.YthjgbnbibebigaaGreat

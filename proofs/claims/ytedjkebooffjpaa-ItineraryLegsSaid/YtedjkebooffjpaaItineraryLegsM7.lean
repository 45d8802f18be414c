/- Parts of the proof:Ac1m,It1m,ItP,ItC,ItA,Sg6m,SgL,Sg5m,SgM,Lk0,Ac2,Ac3m,It2m,ItD,ItE,ItF,ItG,It4m,ItH,It3m,ItI,It5m,It6m,ItJ,It8m,ItK,It9m,ItL,It10m,ItM,It11m,It7m,ItN,It12m,ItO,ItQ,ItR,SpC,SgN,Sg7m,SgO,Sg8m,SgQ,Sg9m,SgR,Sgam,SgS,SgT,Sgbm,SgU,Sgcm,SgV,RqD,SgW. -/
import Derived.Test.YtedjkebooffjpaaProg
import Derived.KernelRfl
import Derived.Test.YtedjkebooffjpaaItineraryLegsM6
noncomputable section
set_option linter.unusedVariables false
set_option linter.unusedSimpArgs false
open Go Go.AX Go.Proofs
set_option maxRecDepth 100000
set_option maxHeartbeats 4000000
set_option linter.unusedVariables false
set_option linter.unusedSimpArgs false
open Go.IntKind (i64 u64)
open List renaming map->Uq,replicate->Ur,drop->Us,take->Ut,range->Uu
open Int renaming toNat->Uv
open Go.AX.AV renaming lst->Uw
open Go.Proofs.Try renaming prog->Ux
namespace Go.Proofs.Ytedjkebooffjpaa
inductive Di where | l0 (v0:Int) (v1:List (List Int)) | l1 (v0:Int) (v1:List (List Int)) (v2:List Int) (v3:List (List Int))
def D4(q:Aj)(x:Int):Di->St | .l0 v0 v1=>St.mk 28 [(1,AV.ptr 0 0 0),(2,AV.ptr 1 0 0),(3,AV.ptr 2 0 0),(4,iv v0)] [some (bK [AV.agg [Uw (Uq iv q.ow),Uw (gL q.qu)]] 2),some (bK [AV.agg [AV.nils,AV.nils]] 2),some (Blk.mk [AV.agg [AV.sl 3 0 q.ow.length,AV.sl 4 0 v1.length]] 2 false true none),some (bK (Uq iv q.ow) 1),some (bK (Uq lI v1) 1)] | .l1 v0 v1 v2 v3=>c19F q x v0 v1 v2 v3
def KO:Di->Nat | .l0 _ _=>0 | .l1 _ _ _ _=>0
def LA(q:Aj)(x:Int):Option (Di⊕Ret):=gu (∀(e:AV),e∈Uq iV q.ow->e.cells.length=1) <|gu ((Uq iV q.ow).length<=9223372036854775807) <|gu ((Uq iV q.ow).length * 8<=140737488355328) <|some (.inl (.l0 ((0:Int)) ([])))
def G9(q:Aj)(x v0:Int)(v1:List (List Int)):Option (Di⊕Ret):=br (decide (v0=x)) (br (decide (v0<iN (gL q.qu).length)) (gu (0<=v0) <|el (q.qu) (v0.toNat) fun(x21:List Int)=>gu (∀(e:AV),e∈Uq iV x21->e.cells.length=1) <|gu ((Uq iV x21).length<=9223372036854775807) <|gu ((Uq iV x21).length * 8<=140737488355328) <|gu ((Uq lI v1).length+[AV.sl 5 0 (Uq iV x21).length].length<=9223372036854775807) <|gu (((Uq lI v1).length+[AV.sl 5 0 (Uq iV x21).length].length) * 24<=140737488355328) <|gu (∀(e:AV),e∈(Blk.mk (Uq lI v1++[AV.sl 5 0 (Uq iV x21).length]) 1 false true none).es->∀(c:AV),c∈e.cells->Bk 6 3 c=true) <|some (.inl (.l1 (i64.wrap (v0+1)) v1 x21 ([])))) (some (.inr ([some (bK (Uq iV q.ow) 1),some (bK (Uq lI v1) 1)],AV.agg [AV.sl 0 0 q.ow.length,AV.sl 1 0 v1.length])))) (br (decide (v0<iN (gL q.qu).length)) (gu (0<=v0) <|el (q.qu) (v0.toNat) fun(x21:List Int)=>gu (∀(e:AV),e∈Uq iV x21->e.cells.length=1) <|gu ((Uq iV x21).length<=9223372036854775807) <|gu ((Uq iV x21).length * 8<=140737488355328) <|gu ((Uq lI v1).length+[Uw (Uq iV x21)].length<=9223372036854775807) <|gu (((Uq lI v1).length+[Uw (Uq iV x21)].length) * 24<=140737488355328) <|some (.inl (.l0 (i64.wrap (v0+1)) (v1++[x21])))) (some (.inr ([some (bK (Uq iV q.ow) 1),some (bK (Uq lI v1) 1)],AV.agg [AV.sl 0 0 q.ow.length,AV.sl 1 0 v1.length]))))
def GW(q:Aj)(x v0:Int)(v1:List (List Int))(v2:List Int)(v3:List (List Int)):Option (Di⊕Ret):=br (decide (v0<iN (gL q.qu).length)) (gu (0<=v0) <|el (q.qu) (v0.toNat) fun(x21:List Int)=>gu (∀(e:AV),e∈Uq iV x21->e.cells.length=1) <|gu ((Uq iV x21).length<=9223372036854775807) <|gu ((Uq iV x21).length * 8<=140737488355328) <|gu (∀(e:AV),e∈(Blk.mk (AJ v1 5 v2.length v3) 1 false true none).es->∀(c:AV),c∈e.cells->Bk 6 3 c=true) <|gu ((AJ v1 5 v2.length v3).length=v1.length+1+v3.length) <|gu ((AJ v1 5 v2.length v3).length+[Uw (Uq iV x21)].length<=9223372036854775807) <|gu (((AJ v1 5 v2.length v3).length+[Uw (Uq iV x21)].length) * 24<=140737488355328) <|gu (∀(e:AV),e∈(Blk.mk (AJ v1 5 v2.length v3++[Uw (Uq iV x21)]) 1 false true none).es->∀(c:AV),c∈e.cells->Bk 6 3 c=true) <|some (.inl (.l1 (i64.wrap (v0+1)) v1 v2 (v3++[x21])))) (some (.inr (KT q x v1 v2 v3)))
def c9kStep(q:Aj)(x:Int):Di->Option (Di⊕Ret) | .l0 v0 v1=>G9 q x v0 v1 | .l1 v0 v1 v2 v3=>GW q x v0 v1 v2 v3
theorem c9kEn_ok(q:Aj)(x:Int)(o:Di⊕Ret)(h:LA q x=some o):Arr Ux Try.f50 0 (D4 q x) KO (zB Try.f50) [] {n:=Try.f50.ntmps,fr:=AI 0 ([lkA q]),hp:=([])} o:=AS.ok h mix (.rn 0 [] [] [] [] (al (u2 t2)) <|.gu fun a0=>.gu fun a1=>.gu fun a2=>.lq [] [] [] [] [(2003,1)] [0,1,3,2,4] [1,2,3,4] (up [] [(2,[AV.agg [AV.sl 3 0 (Uq iv q.ow).length,AV.sl 4 0 0]])] (D4 q x (.l0 ((0:Int)) ([])))) (aj (aj (u2 (u2 (aj (ak (aj a0 (aj a1 a2))) (u2 (ak (al (k2 n11))))))) s2) (ak (k5 (aj (al t3) t3)))) (by simp[up,upF,upV,upH,upB,D4,gL,boL,lI])) (by kernel_rfl)
theorem c9kS0_ok(q:Aj)(x v0:Int)(v1:List (List Int))(o:Di⊕Ret)(h:G9 q x v0 v1=some o):Arr Ux Try.f50 0 (D4 q x) KO (Av Try.f50 0) (.rnd (Av Try.f50 0)::AK Try.f50 0) (D4 q x (.l0 v0 v1)) o:=AS.ok h mix (.br (fun a0=>.rn 0 [] [] [] [] (al (u2 (u2 (u2 (u2 (al t3)))))) <|.br (fun a1=>.gu fun a2=>.el fun x21 a3=>.gu fun a4=>.gu fun a5=>.gu fun a6=>.gu fun a7=>.gu fun a8=>.gu fun a9=>.lr [27] [(5007,AV.sl 6 0 0),(21,lI x21)] [] [] [1,2,3,4] (St.mk 28 [(1,AV.ptr 0 0 0),(2,AV.ptr 1 0 0),(3,AV.ptr 2 0 0),(4,iV (i64.wrap (v0+1)))] [some (bK [AV.agg [Uw (Uq iV q.ow),Uw (gL q.qu)]] 2),some (bK [AV.agg [AV.nils,AV.nils]] 2),some (Blk.mk [AV.agg [AV.sl 3 0 q.ow.length,AV.sl 7 0 ((Uq lI v1).length+[AV.sl 5 0 (Uq iV x21).length].length)]] 2 false true none),some (bK (Uq iV q.ow) 1),none,some (bK (Uq iV x21) 1),some (Blk.mk [AV.sl 5 0 (Uq iV x21).length] 1 false true none),some (Blk.mk (Uq lI v1++[AV.sl 5 0 (Uq iV x21).length]) 1 false true none)]) (aj a1 (aj (aj t2 (aj t2 (aj t2 (aj t2 (aj t2 (aj (ak (ak (aj a2 (Ar (f:=lI) a3)))) (aj t2 (aj (ak (aj a4 (aj a5 a6))) (aj t2 (aj (ak (ak (aj (show(Uq lI v1).length=v1.length by simp) (aj (aj (show nat_lit 1=nat_lit 1 from rfl) (show 1<=[AV.sl 5 0 (Uq iV x21).length].length by simp)) (aj a7 a8))))) (aj t2 (al (aj a9 t3))))))))))))) (al (aj t2 (aj t2 s2))))) (by apply c19ra<;>first | assumption | rfl)) (fun a1=>.rt [26] [] [] [] [3,4] [] (aj (aj a1 (al (u2 (al (k2 n11))))) (aj t3 t3)))) (fun a0=>.rn 0 [] [] [] [] (al (u2 (u2 (u2 (u2 (al t3)))))) <|.br (fun a1=>.gu fun a2=>.el fun x21 a3=>.gu fun a4=>.gu fun a5=>.gu fun a6=>.gu fun a7=>.gu fun a8=>.lq [27] [(21,lI x21),(23,Uw [])] [] [] [] [0,1,2,3,6] [1,2,3,4] (up [] [(2,[AV.agg [AV.sl 3 0 q.ow.length,AV.sl 4 0 ((Uq lI v1).length+[Uw (Uq iv x21)].length)]]),(4,Uq lI v1++[Uw (Uq iv x21)])] (D4 q x (.l0 (i64.wrap (v0+1)) (v1++[x21])))) (aj (aj a1 (aj (u2 (u2 (u2 (u2 (u2 (aj (k2 (aj a2 (Ar (f:=lI) a3))) (u2 (aj (ak (aj (aj a4 (aj a5 a6)) (show(Uq iv x21).length=(Uq iv x21).length from rfl))) (u2 (aj (k2 (aj (show(Uq lI v1).length=v1.length by simp) (aj (aj (show nat_lit 1=nat_lit 1 from rfl) (show 1<=[Uw (Uq iv x21)].length by simp)) (aj a7 a8)))) (u2 (al t3)))))))))))) (al (u2 (u2 s2))))) (ak (k5 (aj (al t3) t3)))) (by simp[up,upF,upV,upH,upB,D4,gL,boL,lI])) (fun a1=>.rt [26] [] [] [] [3,4] [] (aj (aj a1 (al (u2 (al (k2 n11))))) (aj t3 t3))))) (by kernel_rfl)
theorem c9kS1_ok(q:Aj)(x v0:Int)(v1:List (List Int))(v2:List Int)(v3:List (List Int))(o:Di⊕Ret)(h:GW q x v0 v1 v2 v3=some o):Arr Ux Try.f50 0 (D4 q x) KO (Av Try.f50 0) (.rnd (Av Try.f50 0)::AK Try.f50 0) (D4 q x (.l1 v0 v1 v2 v3)) o:=AS.ok h mix (.rn 0 [] [] [] [] (al (u2 (u2 (u2 (u2 (al t3)))))) <|.br (fun a0=>.gu fun a1=>.el fun x21 a2=>.gu fun a3=>.gu fun a4=>.gu fun a5=>.gu fun a6=>.gu fun a7=>.gu fun a8=>.gu fun a9=>.gu fun a10=>.lr [27] [(5004,AV.sl 6 0 0),(5007,AV.sl 6 0 0),(21,lI x21),(23,Uw [])] [] [] [1,2,3,4] (St.mk 28 [(1,AV.ptr 0 0 0),(2,AV.ptr 1 0 0),(3,AV.ptr 2 0 0),(4,iV (i64.wrap (v0+1)))] [some (bK [AV.agg [Uw (Uq iV q.ow),Uw (gL q.qu)]] 2),some (bK [AV.agg [AV.nils,AV.nils]] 2),some (Blk.mk [AV.agg [AV.sl 3 0 q.ow.length,AV.sl 7 0 ((AJ v1 5 v2.length v3).length+[Uw (Uq iV x21)].length)]] 2 false true none),some (bK (Uq iV q.ow) 1),none,some (bK (Uq iV v2) 1),some (bK [Uw (Uq iV x21)] 1),some (Blk.mk (AJ v1 5 v2.length v3++[Uw (Uq iV x21)]) 1 false true none)]) (aj a0 (aj (aj t2 (aj t2 (aj t2 (aj t2 (aj t2 (aj (ak (ak (aj a1 (Ar (f:=lI) a2)))) (aj t2 (aj (ak (aj (aj a3 (aj a4 a5)) (show(Uq iV x21).length=(Uq iV x21).length from rfl))) (aj t2 (aj (aj a6 (ak (ak (aj a7 (aj (aj (show nat_lit 1=nat_lit 1 from rfl) (show 1<=[Uw (Uq iV x21)].length by simp)) (aj a8 a9)))))) (aj t2 (al (aj a10 t3))))))))))))) (al (aj t2 (aj t2 s2))))) (by apply c19rb<;>first | assumption | rfl)) (fun a0=>.rr [26] [] [] [] (St.mk 28 [] [some (bK [AV.agg [Uw (Uq iV q.ow),Uw (gL q.qu)]] 2),some (Blk.mk [AV.agg [AV.sl 3 0 q.ow.length,AV.sl 4 0 (v1.length+1+v3.length)]] 2 false true none),some (Blk.mk [AV.agg [AV.sl 3 0 q.ow.length,AV.sl 4 0 (v1.length+1+v3.length)]] 2 false true none),some (bK (Uq iV q.ow) 1),some (Blk.mk (AJ v1 5 v2.length v3) 1 false true none),some (bK (Uq iV v2) 1)]) (AV.agg [AV.sl 3 0 q.ow.length,AV.sl 4 0 (v1.length+1+v3.length)]) (aj a0 (al (aj t2 (al (ak (ak (show Nat.le (nat_lit 1) (nat_lit 1) from(by first | exact nL rfl | decide)))))))) (by apply c19re<;>first | assumption | rfl))) (by kernel_rfl)
theorem c9k_ct(q:Aj)(x:Int)(r:Ret)(h:Aq (c9kStep q x) (LA q x) r):CT Ux 50 ([]) ([lkA q]) r.1 r.2:=
 CT.mach (fn:=Try.f50) (c:=zB Try.f50) (S:=D4 q x) (hd:=KO) Try.func50 (by kernel_rfl) (nL rfl)
  (fun s o ho=>match s,ho with
   | .l0 v0 v1,ho=>c9kS0_ok q x v0 v1 o ho
   | .l1 v0 v1 v2 v3,ho=>c9kS1_ok q x v0 v1 v2 v3 o ho
  )
  (fun o ho=>c9kEn_ok q x o ho) h
inductive DM where | l0 (v0:List Int) (v1:Int)
def GE(n:Ab)(q k:Int):DM->St | .l0 v0 v1=>St.mk 33 [(1,iv q),(3,AV.ptr 0 0 0),(7,AV.sl 1 0 v0.length),(8,iv v1)] [some (bK [Af n] 8),some (bK (Uq iv v0) 1)]
def Ni:DM->Nat | .l0 _ _=>0
def LW(n:Ab)(q k:Int):Option (DM⊕Ret):=some (.inl (.l0 ([]) k))
def Hd(n:Ab)(q k:Int)(v0:List Int)(v1:Int):Option (DM⊕Ret):=gu (0<=q) <|el (n.ss) (q.toNat) fun(x14:Am)=>br (decide (v1<=x14.k)) (el (n.ss) (q.toNat) fun(x24:Am)=>gu ((Uq iV v0).length+[iV (i64.wrap (i64.wrap (x24.b+v1)-1))].length<=9223372036854775807) <|gu (((Uq iV v0).length+[iV (i64.wrap (i64.wrap (x24.b+v1)-1))].length) * 8<=140737488355328) <|some (.inl (.l0 (v0++[i64.wrap (i64.wrap (x24.b+v1)-1)]) (i64.wrap (v1+1))))) (some (.inr ([],Uw (Uq iV v0))))
def rstStep(n:Ab)(q k:Int):DM->Option (DM⊕Ret) | .l0 v0 v1=>Hd n q k v0 v1
theorem rstEn_ok(n:Ab)(q k:Int)(o:DM⊕Ret)(h:LW n q k=some o):Arr Ux Try.f122 0 (GE n q k) Ni (zB Try.f122) [] {n:=Try.f122.ntmps,fr:=AI 0 ([Af n,.int .i64 q,.int .i64 k]),hp:=([])} o:=Scr.ok h mix (.lp [] [] [] [] [(7,1)] [0,1] [1,3,7,8] (aj (ag t2 (u2 (al (u2 s2)))) t7)) (by kernel_rfl)
theorem rstS0_ok(n:Ab)(q k:Int)(v0:List Int)(v1:Int)(o:DM⊕Ret)(h:Hd n q k v0 v1=some o):Arr Ux Try.f122 0 (GE n q k) Ni (Av Try.f122 0) (.rnd (Av Try.f122 0)::AK Try.f122 0) (GE n q k (.l0 v0 v1)) o:=Scr.ok h mix (.gu fun a0=>.el fun x14 a1=>.rn 0 [] [(14,sA x14)] [] [] (al (u2 (u2 (u2 (u2 (aj (k2 (aj a0 (Ar (f:=sA) a1))) (u2 (u2 (al t3))))))))) <|.br (fun a2=>.el fun x24 a3=>.gu fun a4=>.gu fun a5=>.lq [35] [(24,sA x24)] [] [] [] [0,3] [1,3,7,8] (up [(7,AV.sl 1 0 ((Uq iv v0).length+[iv (i64.wrap (i64.wrap (x24.b+v1)-1))].length))] [(1,Uq iv v0++[iv (i64.wrap (i64.wrap (x24.b+v1)-1))])] (GE n q k (.l0 (v0++[i64.wrap (i64.wrap (x24.b+v1)-1)]) (i64.wrap (v1+1))))) (aj (aj a2 (aj (u2 (u2 (u2 (u2 (aj (k2 (aj a0 (Ar (f:=sA) a3))) (u2 (u2 (u2 (aj t3 (u2 (u2 (aj (k2 (aj (show(Uq iv v0).length=v0.length by simp) (aj (aj (show nat_lit 1=nat_lit 1 from rfl) (show 1<=[iv (i64.wrap (i64.wrap (x24.b+v1)-1))].length by simp)) (aj a4 a5)))) s2)))))))))))) (al (u2 (u2 s2))))) t7) (by simp[up,upF,upV,upH,upB,GE,gL,boL,lI,sA,bA])) (fun a2=>.rt [34] [] [] [] [] [1] (aj (aj a2 (al (u2 s2))) (al (show v0.length=(Uq iv v0).length by simp))))) (by kernel_rfl)
theorem rst_ct(n:Ab)(q k:Int)(r:Ret)(h:Aq (rstStep n q k) (LW n q k) r):CT Ux 122 ([]) ([Af n,.int .i64 q,.int .i64 k]) r.1 r.2:=
 CT.mach (fn:=Try.f122) (c:=zB Try.f122) (S:=GE n q k) (hd:=Ni) Try.func122 (by kernel_rfl) (nL rfl)
  (fun s o ho=>match s,ho with
   | .l0 v0 v1,ho=>rstS0_ok n q k v0 v1 o ho
  )
  (fun o ho=>rstEn_ok n q k o ho) h
inductive EE where | l0 (v0:Int)
def Jp(q:Ac)(l:List Int):EE->St | .l0 v0=>St.mk 20 [(1,Uw (Uq iv l)),(2,AV.ptr 0 0 0),(5,iv v0)] [some (bK [AV.agg [Uw (boL q.cl),Uw (Uq iv q.bw),Uw (Uq iv q.pe)]] 3)]
def LR:EE->Nat | .l0 _=>0
def L1(q:Ac)(l:List Int):Option (EE⊕Ret):=some (.inl (.l0 ((0:Int))))
def Fz(q:Ac)(l:List Int)(v0:Int):Option (EE⊕Ret):=br (decide (v0<iN (Uq iV l).length)) (gu (0<=v0) <|el l (v0.toNat) fun(x16:Int)=>gu (0<=x16) <|el (q.cl) (x16.toNat) fun(x18:Bool)=>br x18 (some (.inr ([],bV false))) (some (.inl (.l0 (i64.wrap (v0+1)))))) (some (.inr ([],bV true)))
def ropStep(q:Ac)(l:List Int):EE->Option (EE⊕Ret) | .l0 v0=>Fz q l v0
theorem ropEn_ok(q:Ac)(l:List Int)(o:EE⊕Ret)(h:L1 q l=some o):Arr Ux Try.f123 0 (Jp q l) LR (zB Try.f123) [] {n:=Try.f123.ntmps,fr:=AI 0 ([sgA q,lI l]),hp:=([])} o:=Scr.ok h mix (.lp [] [] [] [] [] [0] [1,2,5] (aj (ag t2 s2) t5)) (by kernel_rfl)
theorem ropS0_ok(q:Ac)(l:List Int)(v0:Int)(o:EE⊕Ret)(h:Fz q l v0=some o):Arr Ux Try.f123 0 (Jp q l) LR (Av Try.f123 0) (.rnd (Av Try.f123 0)::AK Try.f123 0) (Jp q l (.l0 v0)) o:=Scr.ok h mix (.rn 0 [] [] [] [] (al (u2 (u2 (u2 (al t3))))) <|.br (fun a0=>.gu fun a1=>.el fun x16 a2=>.gu fun a3=>.el fun x18 a4=>.rn 0 [19] [(16,iv x16),(18,bV x18)] [] [] (aj a0 (al (u2 (u2 (u2 (u2 (aj (k2 (aj a1 (Ar (f:=iv) a2))) (u2 (aj (k2 (aj a3 (Ar (f:=bV) a4))) s2))))))))) <|.br (fun a5=>.rt [39] [] [] [] [] [] (aj (aj a5 s2) t2)) (fun a5=>.lp [38] [] [] [] [] [0] [1,2,5] (aj (aj a5 (al (u2 (u2 s2)))) t5))) (fun a0=>.rt [18] [] [] [] [] [] (aj (aj a0 s2) t2))) (by kernel_rfl)
theorem rop_ct(q:Ac)(l:List Int)(r:Ret)(h:Aq (ropStep q l) (L1 q l) r):CT Ux 123 ([]) ([sgA q,lI l]) r.1 r.2:=
 CT.mach (fn:=Try.f123) (c:=zB Try.f123) (S:=Jp q l) (hd:=LR) Try.func123 (by kernel_rfl) (nL rfl)
  (fun s o ho=>match s,ho with
   | .l0 v0,ho=>ropS0_ok q l v0 o ho
  )
  (fun o ho=>ropEn_ok q l o ho) h
def pd1St(q:Ac)(c:Int):Empty->St | x=>x.elim
def pd1Hd:Empty->Nat | x=>x.elim
def Mc(q:Ac)(c:Int):Option (Empty⊕Ret):=gu (0<=c) <|el (q.cl) (c.toNat) fun(x7:Bool)=>some (.inr ([some (bK [AV.agg [Uw (boL q.cl),Uw (Uq iV q.bw),Uw (Uq iV q.pe)]] 3)],bV x7))
def pd1Step(q:Ac)(c:Int):Empty->Option (Empty⊕Ret) | x=>x.elim
theorem pd1En_ok(q:Ac)(c:Int)(o:Empty⊕Ret)(h:Mc q c=some o):Arr Ux Try.f138 1 (pd1St q c) pd1Hd (zB Try.f138) [] {n:=Try.f138.ntmps,fr:=AI 0 ([.int .i64 c,.ptr 0 0 0]),hp:=([some (bK [sgA q] 3)])} o:=Scr.ok h mix (.rn 0 [] [] [] [] s2 <|.gu fun a0=>.el fun x7 a1=>.rt [] [(7,bV x7)] [] [] [0] [] (aj (al (u2 (u2 (u2 (aj (k2 (aj a0 (Ar (f:=bV) a1))) (u2 s2)))))) t3)) (by kernel_rfl)
theorem pd1_ct(q:Ac)(c:Int)(r:Ret)(h:Aq (pd1Step q c) (Mc q c) r):CT Ux 138 ([some (bK [sgA q] 3)]) ([.int .i64 c,.ptr 0 0 0]) r.1 r.2:=
 CT.mach (fn:=Try.f138) (c:=zB Try.f138) (S:=pd1St q c) (hd:=pd1Hd) Try.func138 (by kernel_rfl) (nL rfl)
  (fun s o ho=>match s,ho with
   | x,_=>x.elim)
  (fun o ho=>pd1En_ok q c o ho) h
inductive EM where | l0 (v0:Int)
def JC(q:Aj)(c:Int):EM->St | .l0 v0=>St.mk 21 [(1,iv c),(2,AV.ptr 0 0 0),(5,iv v0)] [some (bK [AV.agg [Uw (Uq iv q.ow),Uw (gL q.qu)]] 2)]
def NJ:EM->Nat | .l0 _=>0
def LL(q:Aj)(c:Int):Option (EM⊕Ret):=some (.inl (.l0 ((0:Int))))
def Fw(q:Aj)(c v0:Int):Option (EM⊕Ret):=br (decide (v0<iN (gL q.qu).length)) (gu (0<=v0) <|el (q.qu) (v0.toNat) fun(x16:List Int)=>gu (x16.length<=9223372036854775807) <|br (AC x16 c) (some (.inr ([],iV v0))) (some (.inl (.l0 (i64.wrap (v0+1)))))) (some (.inr ([],iV (-1))))
def at19Step(q:Aj)(c:Int):EM->Option (EM⊕Ret) | .l0 v0=>Fw q c v0
theorem Rd(q:Aj)(c:Int)(o:EM⊕Ret)(h:LL q c=some o):Arr Ux Try.f107 0 (JC q c) NJ (zB Try.f107) [] {n:=Try.f107.ntmps,fr:=AI 0 ([lkA q,.int .i64 c]),hp:=([])} o:=Scr.ok h mix (.lp [] [] [] [] [] [0] [1,2,5] (aj (ag t2 s2) t5)) (by kernel_rfl)
theorem Sv(q:Aj)(c v0:Int)(o:EM⊕Ret)(h:Fw q c v0=some o):Arr Ux Try.f107 0 (JC q c) NJ (Av Try.f107 0) (.rnd (Av Try.f107 0)::AK Try.f107 0) (JC q c (.l0 v0)) o:=Scr.ok h mix (.rn 0 [] [] [] [] (al (u2 (u2 (u2 (u2 (al t3)))))) <|.br (fun a0=>.gu fun a1=>.el fun x16 a2=>.gu fun a3=>have c0:=G6 x16 c a3;.rn 0 [21] [(16,lI x16)] [(19,hK c0 [] [])] [] (aj a0 (al (u2 (u2 (u2 (aj (k2 (aj a1 (Ar (f:=lI) a2))) (u2 (u2 (al (ak (k3 (al (c0))))))))))))) <|.br (fun a4=>.rt [39] [] [] [] [] [] (aj (aj a4 (al (u2 s2))) t2)) (fun a4=>.lp [38] [] [] [] [] [0] [1,2,5] (aj (aj a4 (al (u2 (u2 s2)))) t5))) (fun a0=>.rt [20] [] [] [] [] [] (aj (aj a0 s2) t2))) (by kernel_rfl)
theorem at19_ct(q:Aj)(c:Int)(r:Ret)(h:Aq (at19Step q c) (LL q c) r):CT Ux 107 ([]) ([lkA q,.int .i64 c]) r.1 r.2:=
 CT.mach (fn:=Try.f107) (c:=zB Try.f107) (S:=JC q c) (hd:=NJ) Try.func107 (by kernel_rfl) (nL rfl)
  (fun s o ho=>match s,ho with
   | .l0 v0,ho=>Sv q c v0 o ho
  )
  (fun o ho=>Rd q c o ho) h
end Go.Proofs.Ytedjkebooffjpaa
namespace Go.Proofs.Ytedjkebooffjpaa
def dsS(g:List (List Int))(s:List Bool)(v goal:Nat):Int:=(AE g s goal g.length).getD v 0
def AL(g:List (List Int))(s:List Bool)(v goal:Nat):List Int:=H8 g (AE g s goal g.length) v
structure Pth(g:List (List Int))(s:List Bool)(v goal:Nat)(p:List Int):Prop where
 len:(p.length:Int)=dsS g s v goal+1
 pos:0<p.length
 hd:p.getD 0 0=(v:Int)
 last:p.getD (p.length-1) 0=(goal:Int)
 rng:∀k,k<p.length->0<=p.getD k 0/\p.getD k 0<(g.length:Int)/\s.getD (p.getD k 0).toNat false=false
 edge:∀k,k+1<p.length->p.getD (k+1) 0∈g.getD (p.getD k 0).toNat []
 nv:∀k,0<k->k<p.length->p.getD k 0≠(v:Int)
theorem Gb{g:List (List Int)}{d:List Int}{a m k:Nat}(h:k<=m):(wkL g d a m).getD k 0=wkZ g d a k:=by unfold wkL;rw[Tv,TE,TT (by omega)];rfl
theorem Pp{g:List (List Int)}{s:List Bool}{v goal:Nat}(h:dsS g s v goal<0):AL g s v goal=[]:=by unfold AL H8;unfold dsS at h;rw[Ts h]
theorem K6{g:List (List Int)}{s:List Bool}(hg:OkG g s){v goal:Nat}(hv:v<g.length)(hgo:goal<g.length)(h0:0<=dsS g s v goal):Pth g s v goal (AL g s v goal):=by
 have hD:=D9 hg hgo;unfold dsS at h0;obtain⟨m,hm⟩:∃m:Nat,(AE g s goal g.length).getD v 0=(m:Int):=⟨((AE g s goal g.length).getD v 0).toNat,by omega⟩;have hgd:=shN hD hv h0;have hok:=Il hg hgo hD hv hm hgd;have e:AL g s v goal=wkL g (AE g s goal g.length) v m:=by unfold AL H8;rw[Tt (by omega),hm,TD]
 have hl:=H0 g (AE g s goal g.length) v m;rw[e];have hop:∀k,k<=m->s.getD (wkZ g (AE g s goal g.length) v k).toNat false=false:=fun k hk=>by obtain⟨a,b,c⟩:=hok k hk;exact opnN hD (by omega) (by omega)
 refine⟨by unfold dsS;rw[hl,hm];omega,by omega,by rw[Gb (by omega)];rfl,?_,fun k hk=>?_,fun k hk=>?_,fun k h1 hk=>?_⟩
 .rw[hl,Te,Gb (TF _)];obtain⟨a,b,c⟩:=hok m (TF _);have:=Ib hD (v:=(wkZ g (AE g s goal g.length) v m).toNat) (by omega) (by rw[c];omega);omega
 .rw[hl] at hk;rw[Gb (by omega)];obtain⟨a,b,_⟩:=hok k (by omega);exact⟨a,b,hop k (by omega)⟩
 .rw[hl] at hk;rw[Gb (by omega),Gb (by omega)];obtain⟨a,b,c⟩:=hok k (by omega);exact N2 hg hD (by omega) (by omega) hgd
 .rw[hl] at hk;rw[Gb (by omega)];obtain⟨a,b,c⟩:=hok k (by omega);intro e;rw[e,TD,hm] at c;omega
theorem P5{n:Ab}(hv:Ax n){i j:Nat}{s t:Am}(hs:n.ss[i]?=some s)(ht:n.ss[j]?=some t)(h:i<j):s.b+s.k<=t.b:=by have h1:=(hv.sb hs).2.2.2.2;have h2:=(hv.sb ht).2.2.2.2;have hj:=(Tw.1 ht).1;have hm:=Gn hv (i:=i+1) (j:=j) (by omega) (by omega);rw[Dk hs] at hm;omega
theorem plF_of{n:Ab}(hv:Ax n){i:Nat}{s:Am}(hs:n.ss[i]?=some s){c:Int}(h1:s.b<=c)(h2:c<s.b+s.k):plF n c=some i:=by
 cases hp:plF n c with
 | none=>exact absurd ⟨h1,h2⟩ (P2 hp hs)
 | some j=>
  obtain⟨t,ht,_,a,b,_⟩:=GX hp;rcases Nat.lt_trichotomy i j with h | h | h
  .have:=P5 hv hs ht h;omega
  .rw[h]
  .have:=P5 hv ht hs h;omega
theorem N8{n:Ab}(hv:Ax n){c:Int}(h1:c<(n.bs.length:Int)):plF n c=none:=by
 cases hp:plF n c with
 | none=>rfl
 | some j=>
  obtain⟨t,ht,_,a,b,_⟩:=GX hp;have h:=(hv.sb ht).2.2.2.2;have hj:=(Tw.1 ht).1;have hm:=Gn hv (i:=0) (j:=j) (by omega) (by omega);have h0:AA n 0=(n.bs.length:Int):=by unfold AA;simp
  omega
theorem MQ{n:Ab}(hv:Ax n){x y:Int}(h0:0<=x)(h1:x<(Au n:Int))(h:y∈Ik n x):EZ n x y=true:=by unfold EZ nxO;rw[Ts (Qh hv h0 h1),DZ];exact h
theorem fol_slot{n:Ab}(hv:Ax n){i:Nat}{s:Am}(hs:n.ss[i]?=some s){c:Int}(h1:s.b<=c)(h2:c+1<s.b+s.k):EZ n c (c+1)=true:=by
 have hb:=hv.sb hs;have he:=hv.ends hs;refine MQ hv (by omega) (by omega) ?_;unfold Ik;rw[plF_of hv hs h1 (by omega)];have hg:n.ss.getD i s0=s:=by rw[Tv,hs];rfl
 simp only[hg];unfold G2;rw[Tt (by omega)];exact Tj.2 rfl
theorem NX{n:Ab}(hv:Ax n){x:Int}(h0:0<=x)(h1:x<(n.bs.length:Int)){y:Int}(h:y∈n.nx.getD x.toNat []):EZ n x y=true:=by have hc:=hv.cel;refine MQ hv h0 (by omega) ?_;unfold Ik;rw[N8 hv h1];exact T0.2 (.inl h)
theorem fol_in{n:Ab}(hv:Ax n){i:Nat}{s:Am}(hs:n.ss[i]?=some s):EZ n s.i s.b=true:=by have g:=hv.goodT i s hs;have hi:=g.hi;have hc:=hv.cel;refine MQ hv (by omega) (by omega) ?_;unfold Ik;rw[N8 hv (by omega)];exact T0.2 (.inr (T1.2 ⟨s,List.mem_filter.2 ⟨Ty hs,by simp⟩,rfl⟩))
def Chn(n:Ab):Int->List Int->Prop | _,[]=>True | c,x::l=>EZ n c x=true/\Chn n x l
def DL:Int->List Int->Int | c,[]=>c | _,x::l=>DL x l
theorem Chn.app{n:Ab}:∀{l m:List Int} {c:Int},Chn n c l->Chn n (DL c l) m->Chn n c (l++m) | [],_,_,_,h=>h | _::_,_,_,h,k=>⟨h.1,Chn.app h.2 k⟩
theorem PB:∀(l m:List Int) (c:Int),DL c (l++m)=DL (DL c l) m | [],_,_=>rfl | x::l,m,_=>PB l m x
theorem Chn.of{n:Ab}:∀{l:List Int} {c:Int},(∀k,k<l.length->EZ n ((c::l).getD k 0) (l.getD k 0)=true)->Chn n c l | [],_,_=>trivial | x::l,c,h=>⟨h 0 (by simp),Chn.of fun k hk=>h (k+1) (by simpa using hk)⟩
theorem Lz:∀(l:List Int) (c:Int),DL c l=(c::l).getD l.length 0 | [],_=>rfl | x::l,c=>Lz l x
def Ad(s:Am)(j:Int):List Int:=(Uu (s.k-j).toNat).map fun i:Nat=>s.b+j+(i:Int)
theorem C1(s:Am)(j:Int):(Ad s j).length=(s.k-j).toNat:=by unfold Ad;simp
theorem Qy{s:Am}{j:Int}{i:Nat}(h:i<(s.k-j).toNat):(Ad s j).getD i 0=s.b+j+(i:Int):=by unfold Ad;rw[Tv,TE,TT h];rfl
theorem Pd{s:Am}{j x:Int}:x∈Ad s j↔s.b+j<=x/\x<s.b+s.k:=by
 unfold Ad;constructor
 .intro h;obtain⟨i,hi,rfl⟩:=T1.1 h;have:=Uk.1 hi;omega
 .intro h;exact T1.2 ⟨(x-s.b-j).toNat,Uk.2 (by omega),by omega⟩
theorem slt_chn{n:Ab}(hv:Ax n){i:Nat}{s:Am}(hs:n.ss[i]?=some s){j:Int}(h1:1<=j)(h2:j<=s.k):Chn n (s.b+j-1) (Ad s j)/\DL (s.b+j-1) (Ad s j)=G2 s:=by
 have hl:=C1 s j;have hget:∀k,k<=(s.k-j).toNat->((s.b+j-1)::Ad s j).getD k 0=s.b+j-1+(k:Int):=fun k hk=>by
  cases k with
  | zero=>simp
  | succ k=>show(Ad s j).getD k 0=_;rw[Qy (by omega)];omega
 refine⟨Chn.of fun k hk=>?_,?_⟩
 .rw[hl] at hk;rw[hget k (by omega),Qy hk];have:=fol_slot hv hs (c:=s.b+j-1+(k:Int)) (by omega) (by omega);rw[show s.b+j-1+(k:Int)+1=s.b+j+(k:Int) by omega] at this;exact this
 .rw[Lz,hl,hget _ (TF _)];unfold G2;omega
theorem slt_all{n:Ab}(hv:Ax n){i:Nat}{s:Am}(hs:n.ss[i]?=some s):Chn n s.i (Ad s 0)/\DL s.i (Ad s 0)=G2 s:=by
 have hb:=hv.sb hs;have e:Ad s 0=s.b::Ad s 1:=by
  apply List.ext_getElem
  .rw[Ua,C1,C1];omega
  .intro k h1 h2;rw[C1] at h1;cases k with
   | zero=>unfold Ad;simp
   | succ k=>unfold Ad;simp;omega
 have h:=slt_chn hv hs (j:=1) (by omega) (by omega);rw[show s.b+1-1=s.b by omega] at h;rw[e];exact⟨⟨fol_in hv hs,h.1⟩,h.2⟩
theorem pth_chn{n:Ab}(hv:Ax n){sh:List Bool}{v goal:Nat}{p:List Int}(h:Pth n.nx sh v goal p):Chn n (v:Int) p.tail/\DL (v:Int) p.tail=(goal:Int):=by
 have hl:=hv.nx;have hp:=h.pos;have e:p=(v:Int)::p.tail:=by
  cases p with
  | nil=>exact absurd hp (Nat.lt_irrefl _)
  | cons x r=>have:=h.hd;simp at this;rw[this];rfl
 have ht:p.tail.length=p.length-1:=List.length_tail
 have hg:∀k,p.tail.getD k 0=p.getD (k+1) 0:=fun k=>by conv=>rhs;rw[e]
                                                      rfl
 constructor
 .refine Chn.of fun k hk=>?_
  rw[<-e,hg];have hr:=h.rng k (by omega);rw[hl] at hr;have he:=h.edge k (by omega);exact NX hv hr.1 hr.2.1 he
 .rw[Lz,<-e,ht];exact h.last
theorem rngM{f:Nat->Int}{i:Nat}:(Uu (i+1)).map f=(Uu i).map f++[f i]:=by rw[Ui,TH];rfl
theorem IY{n:Ab}(q k:Int)(hv:Ax n)(hq:0<=q/\q<(n.ss.length:Int))(hk:1<=k/\k<=1000):CT Ux 122 [] [Af n,.int .i64 q,.int .i64 k] [] (lI (Ad (n.ss.getD q.toNat s0) (k-1))):=by
 have hs:=AR s0 (show q.toNat<n.ss.length by omega);have hb:=hv.sb hs;refine rst_ct n q k ([],_) ?_;generalize n.ss.getD q.toNat s0=x at hs hb;unfold LW;have e0:(some (.inl (DM.l0 ((Uu 0).map fun i:Nat=>x.b+(k-1)+(i:Int)) (k+((0:Nat):Int)))):Option (DM⊕Ret))=some (.inl (.l0 [] k)):=by simp
 rw[<-e0];refine Cu (fun i=>DM.l0 ((Uu i).map fun i:Nat=>x.b+(k-1)+(i:Int)) (k+(i:Int))) (x.k-(k-1)).toNat (fun i hi hx=>?_) ?_
 .refine .to (show Hd n q k _ _=_ from ?_) hx;unfold Hd;have w0:i64.wrap (x.b+(k+(i:Int)))=x.b+(k+(i:Int)):=Cq (by omega) (by omega);have w1:i64.wrap (x.b+(k+(i:Int))-1)=x.b+(k-1)+(i:Int):=by rw[Cq (by omega) (by omega)];omega
  have w2:i64.wrap (k+(i:Int)+1)=k+((i+1:Nat):Int):=by rw[Cq (by omega) (by omega)];omega
  rw[Aa hq.1,AH hs,Ak (Az (by omega)),AH hs,Aa (by simp only[Tx,Ud,Ua,Ub];omega),Aa (by simp only[Tx,Ud,Ua,Ub];omega),w0,w1,w2,rngM]
 .refine .to (show Hd n q k _ _=_ from ?_) (.ret _);unfold Hd;rw[Aa hq.1,AH hs,Ae (An (by omega))];rfl
def AW(cl:List Bool)(l:List Int):Bool:=(fnd (fun i=>cl.getD (l.getD i 0).toNat true) 0 l.length).isNone
theorem J1(cl:List Bool)(bw pe l:List Int)(hl:l.length<=1000000)(hr:∀c∈l,0<=c/\c<(cl.length:Int)):CT Ux 123 [] [sgA ⟨cl,bw,pe⟩,lI l] [] (.bool (AW cl l)):=by
 refine rop_ct ⟨cl,bw,pe⟩ l ([],_) ?_;unfold L1 AW;refine(Ki (fun i=>EE.l0 (i:Int)) l.length (fun i=>cl.getD (l.getD i 0).toNat true) (rF:=fun _=>(([],.bool false):Ret)) (r:=([],.bool true)) (fun i hi hp=>?_) (fun i x hi hp hx=>?_) (fun _=>?_)).res (by cases fnd (fun i=>cl.getD (l.getD i 0).toNat true) 0 l.length<;>rfl);all_goals first | have hm:=hr _ (Ga hi) | skip
 .refine .to (show Fz ⟨cl,bw,pe⟩ l i=_ from ?_) (.ret _);unfold Fz;simp only;rw[BO 0 hi,Aa hm.1,AH (AR true (show(l.getD i 0).toNat<cl.length by omega)),Ak hp]
 .refine .to (show Fz ⟨cl,bw,pe⟩ l i=_ from ?_) hx;unfold Fz;simp only;rw[BO 0 hi,Aa hm.1,AH (AR true (show(l.getD i 0).toNat<cl.length by omega)),Ae hp,zW i (by omega)]
 .refine .to (show Fz ⟨cl,bw,pe⟩ l l.length=_ from ?_) (.ret _);unfold Fz;simp only;rw[C3]
theorem pd1_c(q:Ac)(c:Int)(hc:0<=c/\c<(q.cl.length:Int)):CT Ux 138 [some (Blk.mk [sgA q] 3 true true none)] [.int .i64 c,.ptr 0 0 0] [some (Blk.mk [sgA q] 3 true true none)] (.bool (q.cl.getD c.toNat true)):=by refine pd1_ct q c ([_],_) (.val ?_);unfold Mc;rw[Aa hc.1,AH (AR true (show c.toNat<q.cl.length by omega))];rfl
def atZ(qu:List (List Int))(r:Int):Int:=match fnd (fun i=>AC (qu.getD i []) r) 0 qu.length with | some i=>(i:Int) | none=> -1
theorem Oq(ow:List Int)(qu:List (List Int))(r:Int)(h1:qu.length<=1000)(h2:∀r∈qu,r.length<=1000):CT Ux 107 [] [lkA ⟨ow,qu⟩,.int .i64 r] [] (.int .i64 (atZ qu r)):=by
 refine at19_ct ⟨ow,qu⟩ r ([],_) ?_;unfold LL atZ;have hg:∀i,i<qu.length->(qu.getD i []).length<=1000:=fun i hi=>h2 _ (by rw[Tv,Tu hi];exact T2 _)
 refine(Ki (fun i=>EM.l0 (i:Int)) qu.length (fun i=>AC (qu.getD i []) r) (rF:=fun i=>(([],.int .i64 (i:Int)):Ret)) (r:=([],.int .i64 (-1))) (fun i hi hp=>?_) (fun i x hi hp hx=>?_) (fun _=>?_)).res (by cases fnd (fun i=>AC (qu.getD i []) r) 0 qu.length<;>rfl)
 .have:=hg i hi;refine .to (show Fw ⟨ow,qu⟩ r i=_ from ?_) (.ret _);unfold Fw;simp only;rw[show (gL qu).length=(Uq lI qu).length from rfl,BO [] hi,Aa (by omega),Ak hp]
 .have:=hg i hi;refine .to (show Fw ⟨ow,qu⟩ r i=_ from ?_) hx;unfold Fw;simp only;rw[show (gL qu).length=(Uq lI qu).length from rfl,BO [] hi,Aa (by omega),Ae hp,zW i (by omega)]
 .refine .to (show Fw ⟨ow,qu⟩ r qu.length=_ from ?_) (.ret _);unfold Fw;simp only;rw[show (gL qu).length=(Uq lI qu).length from rfl,C3]
def ownSt(q:Aj)(c d:Int):Empty->St | x=>x.elim
def ownHd:Empty->Nat | x=>x.elim
def K8(q:Aj)(c d:Int):Option (Empty⊕Ret):=br (k9E q c d != 0) (some (.inr ([],AV.tup [AV.agg [AV.nils,AV.nils],iV (k9E q c d)]))) (gu (0<=d) <|el (q.ow) (d.toNat) fun(x20:Int)=>br (x20 != -1) (some (.inr ([],AV.tup [AV.agg [AV.nils,AV.nils],iV 24]))) (el (q.qu) (d.toNat) fun(x27:List Int)=>gu (x27.length<=9223372036854775807) <|br (AC x27 c) (some (.inr ([],AV.tup [AV.agg [AV.nils,AV.nils],iV 24]))) (gu (q.ow.length<=1000) <|gu (q.qu.length<=1000) <|gu (∀(r:List Int),r∈q.qu->r.length<=1000) <|gu (d<iN q.ow.length) <|gu ((0+d.toNat).succ.le (Uq iV q.ow).length) <|gu (q.qu.length=(gL q.qu).length) <|some (.inr ([],AV.tup [AV.agg [Uw ((Uq iV q.ow).set (0+d.toNat) (iV c)),Uw (gL q.qu)],iV 0])))))
def ownStep(q:Aj)(c d:Int):Empty->Option (Empty⊕Ret) | x=>x.elim
theorem ownEn_ok(q:Aj)(c d:Int)(o:Empty⊕Ret)(h:K8 q c d=some o):Arr Ux Try.f19 0 (ownSt q c d) ownHd (zB Try.f19) [] {n:=Try.f19.ntmps,fr:=AI 0 ([lkA q,.int .i64 c,.int .i64 d]),hp:=([])} o:=Scr.ok h mix (have c0:=k19_c (q.ow) (q.qu) c (d);.rn 2 [] [] [(12,hK c0 [] [])] [] (aj (u2 t3) (aj (u2 (u2 (u2 (aj (k3 (aj t3 (k2 (al (c0))))) s2)))) (al (u2 s2)))) <|.br (fun a0=>.rt [29] [] [] [] [] [] (aj (aj a0 (al (ak (u2 (aj (k2 n11) s2))))) (al (aj t3 t2)))) (fun a0=>.gu fun a1=>.el fun x20 a2=>.br (fun a3=>.rt [28,47] [(20,iv x20)] [] [] [] [] (aj (aj a0 (aj (u2 (u2 (u2 (aj (k2 (aj a1 (Ar (f:=iv) a2))) (u2 (u2 (u2 (aj a3 (aj a3 (aj a3 (aj a3 (aj a3 (aj a3 (aj a3 (al (aj a3 t2)))))))))))))))) (ak (al (ak (aj (k2 n11) t2)))))) (al (aj t3 t2)))) (fun a3=>.el fun x27 a4=>.gu fun a5=>have c1:=G6 x27 c a5;.rn 0 [28,46] [(20,iv x20),(27,lI x27)] [(30,hK c1 [] [])] [] (aj a0 (al (u2 (u2 (u2 (aj (k2 (aj a1 (Ar (f:=iv) a2))) (u2 (u2 (u2 (ag a3 (ag a3 (ag a3 (aj (aj a3 (k2 (aj a1 (Ar (f:=lI) a4)))) (ag a3 (ag a3 (aj (aj a3 (ak (k3 (al (c1))))) (al (aj a3 t2)))))))))))))))))) <|.br (fun a6=>.rt [46,63] [] [] [] [] [] (aj (aj a6 (al (ak (aj (k2 n11) t2)))) (al (aj t3 t2)))) (fun a6=>.gu fun a7=>.gu fun a8=>.gu fun a9=>have c2:=c19_c (q.ow) (q.qu) a7 a8 a9;.rn 0 [46,62] [] [(34,hK c2 [] [])] [] (aj a6 (al (u2 (aj (ak (aj t3 (al (c2)))) (al (k2 (show Nat.le 1 [AV.agg [Uw (Uq iv q.ow),Uw (gL q.qu)]].length from(nL rfl)))))))) <|.gu fun a10=>.gu fun a11=>.rn 1 [46] [] [] [] (aj (u2 (u2 (u2 (u2 (aj (k2 (aj a1 a10)) (al (k2 a11))))))) (al (u2 (aj (k2 n11) t2)))) <|.gu fun a12=>.rt [46] [] [] [] [] [2,3] (ak (al (aj (aj (show q.ow.length=((Uq iv q.ow).set (0+d.toNat) (iv c)).length by simp) (al a12)) t2))))))) (by kernel_rfl)
theorem own_ct(q:Aj)(c d:Int)(r:Ret)(h:Aq (ownStep q c d) (K8 q c d) r):CT Ux 19 ([]) ([lkA q,.int .i64 c,.int .i64 d]) r.1 r.2:=
 CT.mach (fn:=Try.f19) (c:=zB Try.f19) (S:=ownSt q c d) (hd:=ownHd) Try.func19 (by kernel_rfl) (nL rfl)
  (fun s o ho=>match s,ho with
   | x,_=>x.elim)
  (fun o ho=>ownEn_ok q c d o ho) h
theorem Og{l:Aj}(h:B3 l=true):∀r∈l.qu,r.length<=8:=fun r hr=>by
 unfold B3 at h;simp only[TC,Uj] at h;obtain⟨c,hc,rfl⟩:=T7.1 hr;have hb:=CH h.2.2 c (TG _) (by omega);unfold bdR at hb;rw[Bool.or_eq_false_iff] at hb;have e:l.qu.getD c []=l.qu[c]:=by rw[Tv,Tu hc];rfl
 rw[<-e];refine IE (TF _) fun j hj=>?_
 cases hf:fnd (bdQ l c) 0 (l.qu.getD c []).length with
 | none=>exact CH hf j (TG _) (by omega)
 | some i=>rw[hf] at hb;cases hb.2
theorem Kq{l:Aj}{c d:Int}(h:k9E l c d=0):B3 l=true/\(0<=c/\c<8)/\0<=d/\d<(l.ow.length:Int):=by
 unfold k9E at h;split at h
 .rename_i h1;split at h
  .rename_i h2;exact⟨h1,⟨h2.1,h2.2.1⟩,h2.2.2⟩
  .cases h
 .cases h
def owS(l:Aj)(r c:Int):Aj:=⟨l.ow.set c.toNat r,l.qu⟩
def owE(l:Aj)(r c:Int):Int:=if k9E l r c=0 then (if l.ow.getD c.toNat 0≠-1\/AC (l.qu.getD c.toNat []) r=true then 24 else 0) else k9E l r c
def owO(l:Aj)(r c:Int):Aj:=if owE l r c=0 then owS l r c else ⟨[],[]⟩
theorem owS_av(l:Aj)(r c:Int):(.tup [lkA (owS l r c),.int .i64 0]:AV) = .tup [.agg [.lst ((Uq (AV.int .i64) l.ow).set (0+c.toNat) (.int .i64 r)),.lst (gL l.qu)],.int .i64 0]:=by unfold owS lkA lI;simp only[TJ];rw[Um]
theorem own_c(ow:List Int)(qu:List (List Int))(r c:Int):CT Ux 19 [] [lkA ⟨ow,qu⟩,.int .i64 r,.int .i64 c] [] (.tup [lkA (owO ⟨ow,qu⟩ r c),.int .i64 (owE ⟨ow,qu⟩ r c)]):=by
 generalize hs:(⟨ow,qu⟩:Aj)=l;have k:=own_ct l r c;unfold K8 at k;unfold owO;have hbad:owE l r c≠0->(.tup [lkA (if owE l r c=0 then owS l r c else ⟨[],[]⟩),.int .i64 (owE l r c)]:AV)=wk2 (.tup [.agg [.nils,.nils],.int .i64 (owE l r c)]):=fun h=>by rw[Tt h];rfl
 by_cases h1:k9E l r c=0
 case neg=>
  have e:owE l r c=k9E l r c:=by unfold owE;rw[Tt h1]
  rw[hbad (by rw[e];exact h1),e];exact CT.w2 (k ([],_) (.val (by rw[Ak (Uh.2 h1)])))
 obtain⟨hb,hr,hc0,hc1⟩:=Kq h1;obtain⟨hlen,h48⟩:=JS hb;have hrows:=Og hb;have eE:owE l r c=if l.ow.getD c.toNat 0≠-1\/AC (l.qu.getD c.toNat []) r=true then 24 else 0:=by unfold owE;rw[Ts h1]
 have hq:=AR ([]:List Int) (show c.toNat<l.qu.length by omega);have hql:=hrows _ (Ty hq);rw[h1,Ae (by rfl),Aa hc0,AH (AR 0 (show c.toNat<l.ow.length by omega))] at k;by_cases h2:l.ow.getD c.toNat 0 = -1
 case neg=>
  have e:owE l r c=24:=by rw[eE,Ts (.inl h2)]
  rw[hbad (by rw[e];decide),e];exact CT.w2 (k ([],_) (.val (by rw[Ak (Uh.2 h2)])))
 rw[h2,Ae (by rfl),AH hq,Aa (by omega)] at k;cases h3:AC (l.qu.getD c.toNat []) r with
 | true=>
  rw[h3] at k;have e:owE l r c=24:=by rw[eE,Ts (.inr h3)]
  rw[hbad (by rw[e];decide),e];exact CT.w2 (k ([],_) (.val (by rw[Ak rfl])))
 | false=>
  rw[h3,Ae rfl,Aa (by omega),Aa (by omega),Aa (fun x hx=>by have:=hrows x hx;omega),Aa hc1,Aa (show Nat.le _ _ from(by rw[Tx];show 0+c.toNat+1<=_;omega)),Aa (BD _).symm] at k;have e:owE l r c=0:=by rw[eE,Tt (by rw[h2,h3];simp)]
  rw[e,Ts rfl,owS_av];exact k ([],_) (.ret _)
structure Ck(l:Aj):Prop where
 len:l.ow.length=l.qu.length
 l48:l.ow.length<=48
 ow:∀c,c<l.ow.length->-1<=l.ow.getD c 0/\l.ow.getD c 0<8
 qu:∀c,c<l.qu.length->∀r∈l.qu.getD c [],0<=r/\r<8/\r≠l.ow.getD c 0
 nd:l.qu.flatten.Nodup
theorem O1(g:List (List Int)){c:Nat}(h:c<g.length):g.flatten=(g.take c).flatten++(g.getD c []++(g.drop (c+1)).flatten):=by
 conv=>lhs;rw[<-List.take_append_drop c g]
 rw[List.flatten_append,List.drop_eq_getElem_cons h,List.flatten_cons,Tv,Tu h];rfl
theorem owE_ok{l:Aj}{r c:Int}(h:owE l r c=0):(0<=r/\r<8)/\(0<=c/\c<(l.ow.length:Int))/\l.ow.getD c.toNat 0 = -1/\r∉l.qu.getD c.toNat []:=by
 unfold owE at h;split at h
 .rename_i h1;obtain⟨_,h2,h3⟩:=Kq h1;split at h
  .cases h
  .rename_i h4;have h4:=not_or.1 h4;refine⟨h2,h3,Classical.not_not.1 h4.1,fun hm=>h4.2 (DZ.2 hm)⟩
 .rename_i h1;exact absurd h h1
theorem KX{α:Type}{l:List α}{i j:Nat}{v d:α}(hi:i<l.length):(l.set i v).getD j d=if i=j then v else l.getD j d:=by
 rw[Tv,Un];by_cases e:i=j
 .subst e;rw[Ts rfl,Ts hi,Ts rfl];rfl
 .rw[Tt e,Tt e,<-Tv]
theorem Ck.own{l:Aj}(h:Ck l){r c:Int}(he:owE l r c=0):Ck (owS l r c):=by
 obtain⟨h1,h2,h3,h4⟩:=owE_ok he;have hl:=h.len;have hc:c.toNat<l.ow.length:=by omega
 refine⟨by show(l.ow.set c.toNat r).length=_;rw[T3];exact hl,by show(l.ow.set c.toNat r).length<=_;rw[T3];exact h.l48,fun d hd=>?_,fun d hd x hx=>?_,h.nd⟩
 .have hd:d<l.ow.length:=by have:(l.ow.set c.toNat r).length=l.ow.length:=T3 ..;have hd:d<(l.ow.set c.toNat r).length:=hd;omega
  show -1<=(l.ow.set c.toNat r).getD d 0/\(l.ow.set c.toNat r).getD d 0<8;rw[KX hc];split
  .omega
  .exact h.ow d hd
 .obtain⟨a,b,e⟩:=h.qu d hd x hx;refine⟨a,b,?_⟩;show x≠(l.ow.set c.toNat r).getD d 0;rw[KX hc];split
  .rename_i hcd;rintro rfl;rw[hcd] at h4;exact h4 hx
  .exact e
def asS(l:Aj)(r c:Int):Aj:=⟨l.ow,l.qu.set c.toNat (l.qu.getD c.toNat []++[r])⟩
def asE(l:Aj)(r c:Int):Int:=if k9E l r c=0 then (if 0<=atZ l.qu r\/l.ow.getD c.toNat 0=r then 24 else 0) else k9E l r c
def asO(l:Aj)(r c:Int):Aj:=if asE l r c=0 then asS l r c else ⟨[],[]⟩
theorem atZ_no{qu:List (List Int)}{r:Int}(h:¬0<=atZ qu r):r∉qu.flatten:=by
 intro hm;obtain⟨w,hw,hr⟩:=List.mem_flatten.1 hm;obtain⟨i,hi,rfl⟩:=T7.1 hw;unfold atZ at h;cases hf:fnd (fun i=>AC (qu.getD i []) r) 0 qu.length with
 | some j=>rw[hf] at h;simp only at h;omega
 | none=>have:=CH hf i (TG _) (by omega);rw[Tv,Tu hi] at this;simp only[Option.getD_some] at this;rw[DZ.2 hr] at this;cases this
theorem asE_ok{l:Aj}{r c:Int}(h:asE l r c=0):B3 l=true/\(0<=r/\r<8)/\(0<=c/\c<(l.ow.length:Int))/\l.ow.getD c.toNat 0≠r/\r∉l.qu.flatten:=by
 unfold asE at h;split at h
 .rename_i h1;obtain⟨h0,h2,h3⟩:=Kq h1;split at h
  .cases h
  .rename_i h4;have h4:=not_or.1 h4;exact⟨h0,h2,h3,h4.2,atZ_no h4.1⟩
 .rename_i h1;exact absurd h h1
theorem Ck.ask{l:Aj}(h:Ck l){r c:Int}(he:asE l r c=0):Ck (asS l r c):=by
 obtain⟨_,h1,h2,h3,h4⟩:=asE_ok he;have hl:=h.len;have hc:c.toNat<l.qu.length:=by omega
 have hset:∀d,(asS l r c).qu.getD d []=if c.toNat=d then l.qu.getD c.toNat []++[r] else l.qu.getD d []:=fun d=>KX hc
 refine⟨by show l.ow.length=(l.qu.set c.toNat _).length;rw[T3];exact hl,h.l48,h.ow,fun d hd x hx=>?_,?_⟩
 .have hd:d<l.qu.length:=by have:(l.qu.set c.toNat (l.qu.getD c.toNat []++[r])).length=l.qu.length:=T3 ..;have hd:d<(l.qu.set c.toNat (l.qu.getD c.toNat []++[r])).length:=hd;omega
  rw[hset] at hx;show 0<=x/\x<8/\x≠l.ow.getD d 0;split at hx
  .rename_i e;rcases T0.1 hx with hx | hx
   .rw[<-e];exact h.qu _ hc x hx
   .rw[Tj.1 hx,<-e];exact⟨h1.1,h1.2,fun e=>h3 e.symm⟩
  .exact h.qu d hd x hx
 .show(l.qu.set c.toNat (l.qu.getD c.toNat []++[r])).flatten.Nodup;have hnd:=h.nd;have hcs:c.toNat<(l.qu.set c.toNat (l.qu.getD c.toNat []++[r])).length:=by rw[T3];exact hc
  rw[O1 _ hcs];rw[O1 l.qu hc] at hnd h4;have e1:(l.qu.set c.toNat (l.qu.getD c.toNat []++[r])).take c.toNat=l.qu.take c.toNat:=List.take_set_of_le (TF _);have e2:(l.qu.set c.toNat (l.qu.getD c.toNat []++[r])).drop (c.toNat+1)=l.qu.drop (c.toNat+1):=List.drop_set_of_lt (Nat.lt_succ_self _);have e3:(l.qu.set c.toNat (l.qu.getD c.toNat []++[r])).getD c.toNat []=l.qu.getD c.toNat []++[r]:=by rw[KX hc,Ts rfl]
  rw[e1,e2,e3];generalize (l.qu.take c.toNat).flatten=A at *;generalize (l.qu.drop (c.toNat+1)).flatten=B at *;generalize l.qu.getD c.toNat []=R at *;have hp:(A++(R++[r]++B)).Perm (r::(A++(R++B))):=by rw[List.append_assoc R [r] B,<-List.append_assoc A R,<-List.append_assoc A R];exact List.perm_middle
  exact hp.nodup_iff.2 (List.nodup_cons.2 ⟨h4,hnd⟩)
theorem nlS_ok{c:Nat}(h:c<=48):Ck ⟨Ur c (-1),Ur c []⟩:=by
 refine⟨by simp,by simpa using h,fun d hd=>?_,fun d hd x hx=>?_,?_⟩
 .have hd:d<c:=by simpa using hd
  show -1<=(Ur c (-1:Int)).getD d 0/\_;rw[Tv,TW,Ts hd];simp
 .have:(Ur c ([]:List Int)).getD d []=[]:=by rw[Tv,TW];split<;>rfl
  rw[this] at hx;cases hx
 .show(Ur c ([]:List Int)).flatten.Nodup;simp
theorem c19x_c(ow:List Int)(qu:List (List Int))(d:Int)(h1:ow.length<=1000)(h2:qu.length<=1000)(h3:∀r∈qu,r.length<=1000)(hd:0<=d/\d.toNat<qu.length):
  CT Ux 50 [] [lkA ⟨ow,qu⟩] [some (Blk.mk (ow.map (AV.int .i64)) 1 true true none),some (Blk.mk (AJ (qu.take d.toNat) 2 (qu.getD d.toNat []).length (qu.drop (d.toNat+1))) 1 false true none),some (Blk.mk ((qu.getD d.toNat []).map (AV.int .i64)) 1 true true none)]
   (.agg [.sl 0 0 ow.length,.sl 1 0 ((qu.take d.toNat).length+1+(qu.drop (d.toNat+1)).length)]):=by
 refine c9k_ct ⟨ow,qu⟩ d (KT ⟨ow,qu⟩ d (qu.take d.toNat) (qu.getD d.toNat []) (qu.drop (d.toNat+1))) ?_;have hx:d=((d.toNat:Nat):Int):=(TX hd.1).symm;have hr:∀i,i<qu.length->(qu.getD i []).length<=1000:=fun i hi=>h3 _ (by rw[Tv,Tu hi];exact T2 _)
 generalize hxx:d.toNat=x at *;subst hx;have hgl:(gL qu).length=qu.length:=BD qu;unfold LA;simp only;rw[Aa (BA _),Aa (by rw[Tx];omega),Aa (by rw[Tx];omega)];refine Cu (fun i=>Di.l0 (i:Int) (qu.take i)) x (fun i hi hy=>?_) ?_
 .refine .to (show G9 ⟨ow,qu⟩ x i (qu.take i)=_ from ?_) hy;have:=hr i (by omega);unfold G9;simp only;rw[Ae (An (by omega)),show(gL qu).length=(Uq lI qu).length from rfl,BO [] (by omega),Aa (BA _),Aa (by rw[Tx];omega),Aa (by rw[Tx];omega),Aa (by simp only[Tx,TY,Ua,Ub];omega),Aa (by simp only[Tx,TY,Ua,Ub];omega),<-Pa (by omega),zW i (by omega)]
 .have hxr:=hr x hd.2;have hL:∀i,i<=qu.length-(x+1)->((qu.drop (x+1)).take i).length=i:=fun i hi=>by rw[TY,Th];omega
  refine .to (show G9 ⟨ow,qu⟩ x x (qu.take x)=some (.inl (.l1 ((x+1+0:Nat):Int) (qu.take x) (qu.getD x []) ((qu.drop (x+1)).take 0))) from ?_) ?_
  .unfold G9;simp only;rw[Ak (TA trivial),show(gL qu).length=(Uq lI qu).length from rfl,BO [] hd.2,Aa (BA _),Aa (by rw[Tx];omega),Aa (by rw[Tx];omega),Aa (by simp only[Tx,TY,Ua,Ub];omega),Aa (by simp only[Tx,TY,Ua,Ub];omega),Aa (show ∀e∈Uq lI (qu.take x)++[AV.sl 5 0 (Uq (AV.int .i64) (qu.getD x [])).length],∀c∈e.cells,Bk 6 3 c=true from by rw[Qg];exact Kw (by decide) _ _ _),zW x (by omega)];rfl
  .refine Cu (fun i=>Di.l1 ((x+1+i:Nat):Int) (qu.take x) (qu.getD x []) ((qu.drop (x+1)).take i)) (qu.length-(x+1)) (fun i hi hy=>?_) ?_
   .refine .to (show GW ⟨ow,qu⟩ x _ (qu.take x) (qu.getD x []) ((qu.drop (x+1)).take i)=_ from ?_) hy;have:=hr (x+1+i) (by omega);have ht:(qu.drop (x+1)).take (i+1)=(qu.drop (x+1)).take i++[qu.getD (x+1+i) []]:=by rw[List.take_add_one,Tf,AR [] (show x+1+i<qu.length by omega)];rfl
    have hl:=hL i (by omega);have hlx:(qu.take x).length=x:=by rw[TY];omega
    unfold GW;simp only;rw[show (gL qu).length=(Uq lI qu).length from rfl,BO [] (by omega),Aa (BA _),Aa (by rw[Tx];omega),Aa (by rw[Tx];omega),Aa (show ∀e∈AJ (qu.take x) 5 (qu.getD x []).length ((qu.drop (x+1)).take i),∀c∈e.cells,Bk 6 3 c=true from Kw (by decide) _ _ _),Aa (IT ..),Aa (by rw[IT];simp only[Ua,Ub];omega),Aa (by rw[IT];simp only[Ua,Ub];omega),Aa (show ∀e∈AJ (qu.take x) 5 (qu.getD x []).length ((qu.drop (x+1)).take i)++[Uw (Uq (AV.int .i64) (qu.getD (x+1+i) []))],∀c∈e.cells,Bk 6 3 c=true from by rw[PP];exact Kw (by decide) _ _ _),ht,zW (x+1+i) (by omega)];rfl
   .refine .to (show GW ⟨ow,qu⟩ x _ (qu.take x) (qu.getD x []) ((qu.drop (x+1)).take (qu.length-(x+1)))=_ from ?_) (.ret _);unfold GW;simp only;rw[Ae (An (by rw[hgl];simp only[iN];omega)),List.take_of_length_le (l:=Us (x+1) qu) (i:=qu.length-(x+1)) (by rw[Th];exact TF _)]
def KG(q:Aj)(c d:Int):Ret:=([],.tup [lkA (asS q c d),.int .i64 0])
theorem N5(A:List (List Int))(R k:Nat)(B:List (List Int))(τ:Nat->Nat):(AJ A R k B).map (Dr τ)=AJ A (τ R) k B:=by unfold AJ gL;rw[TH,Tq,Ul,Ul];rfl
theorem mix_get(A:List (List Int))(R k:Nat)(B:List (List Int)):(AJ A R k B)[A.length]?=some (.sl R 0 k):=by unfold AJ;rw[List.getElem?_append_right (by rw[BD];omega),BD,Td];rfl
theorem mix_set(A:List (List Int))(R k:Nat)(B:List (List Int))(R' k':Nat):(AJ A R k B).set A.length (.sl R' 0 k')=AJ A R' k' B:=by unfold AJ;rw[List.set_append_right _ _ (by rw[BD];omega),BD,Td];rfl
theorem set_mid{g:List (List Int)}{c:Nat}(h:c<g.length)(r:List Int):g.set c r=g.take c++r::g.drop (c+1):=List.set_eq_take_append_cons_drop .. |>.trans (by rw[Ts h])
theorem askre{q:Aj}{c d:Int}{b0 b1 b5:Blk}{n6:Nat}(hd:0<=d/\d.toNat<q.qu.length)(hn:n6=(Uq (AV.int .i64) (q.qu.getD d.toNat [])).length+1):
  ∃st1,Ren 0 {(St.mk 46 [] [some b0,some b1,some (Blk.mk (Uq (AV.int .i64) q.ow) 1 true true none),some (Blk.mk ((Uq (Dr (tau [] 2)) (AJ (q.qu.take d.toNat) 2 (q.qu.getD d.toNat []).length (q.qu.drop (d.toNat+1)))).set (0+d.toNat) (.sl 6 0 n6)) 1 false true none),none,some b5,some (Blk.mk (Uq (AV.int .i64) (q.qu.getD d.toNat [])++[.int .i64 c]) 1 true true none)]) with fr:=[(0,.tup [.agg [.sl 2 0 q.ow.length,.sl 3 0 ((q.qu.take d.toNat).length+1+(q.qu.drop (d.toNat+1)).length)],.int .i64 0])]} st1/\st1.hp=(KG q c d).1/\AX.Ao st1.fr 0=(KG q c d).2:=by
 have hA:(q.qu.take d.toNat).length=d.toNat:=by rw[TY];omega
 have e1:(Uq (Dr (tau [] 2)) (AJ (q.qu.take d.toNat) 2 (q.qu.getD d.toNat []).length (q.qu.drop (d.toNat+1)))).set (0+d.toNat) (.sl 6 0 n6)=AJ (q.qu.take d.toNat) 6 n6 (q.qu.drop (d.toNat+1)):=by rw[N5,show 0+d.toNat=(q.qu.take d.toNat).length by omega];exact mix_set ..
 have e2:Uq (AV.int .i64) (q.qu.getD d.toNat [])++[AV.int .i64 c]=(q.qu.getD d.toNat []++[c]).map (AV.int .i64):=by rw[TH];rfl
 have e3:n6=(q.qu.getD d.toNat []++[c]).length:=by rw[hn,Tx,TQ];rfl
 have e4:(asS q c d).qu=q.qu.take d.toNat++(q.qu.getD d.toNat []++[c])::q.qu.drop (d.toNat+1):=set_mid hd.2 _;have e5:asS q c d=⟨q.ow,q.qu.take d.toNat++(q.qu.getD d.toNat []++[c])::q.qu.drop (d.toNat+1)⟩:=by rw[<-e4];rfl
 unfold KG;rw[e1,e2,e5];generalize q.qu.take d.toNat=A at *;generalize q.qu.drop (d.toNat+1)=B at *;generalize q.qu.getD d.toNat []++[c]=r at *;obtain⟨Q,hQ,hq⟩:=renB_fz (σ:=[2,3]) (fz:=[6]) (hp:=[some b0,some b1,some (Blk.mk (Uq (AV.int .i64) q.ow) 1 true true none),some (Blk.mk (AJ A 6 n6 B) 1 false true none),none,some b5,some (Blk.mk (r.map (AV.int .i64)) 1 true true none)]) A (R:=6) (k:=n6) (z:=1) B (r:=r) rfl rfl rfl rfl e3;have e:DT [2,3] [6] [some b0,some b1,some (Blk.mk (Uq (AV.int .i64) q.ow) 1 true true none),some (Blk.mk (AJ A 6 n6 B) 1 false true none),none,some b5,some (Blk.mk (r.map (AV.int .i64)) 1 true true none)]=some _:=B4 rfl (B4 (y:=(some (Blk.mk (gL (A++r::B)) 1 true true none),Q)) (by
  show(match BN _ _ _ (Blk.mk (AJ A 6 n6 B) 1 false true none) with | some x=>some (some x.1,x.2) | none=>none)=_;rw[hQ]) rfl)
 have R1:=Ren.of (m:=0) [2,3] [6] [0] (J7 (st:=⟨46,[(0,.tup [.agg [.sl 2 0 q.ow.length,.sl 3 0 (A.length+1+B.length)],.int .i64 0])],[some b0,some b1,some (Blk.mk (Uq (AV.int .i64) q.ow) 1 true true none),some (Blk.mk (AJ A 6 n6 B) 1 false true none),none,some b5,some (Blk.mk (r.map (AV.int .i64)) 1 true true none)]⟩) (vars:=[0]) e) ⟨⟨⟨trivial,trivial,trivial⟩,trivial,trivial⟩,trivial,hq,trivial⟩ rfl rfl rfl
 have R2:Ren 0 ⟨46,[(0,.tup [.agg [.sl 0 0 q.ow.length,.sl 1 0 (A.length+1+B.length)],.int .i64 0])],[some (Blk.mk (Uq (AV.int .i64) q.ow) 1 true true none),some (Blk.mk (gL (A++r::B)) 1 true true none)]⟩ ⟨46,[(0,.tup [.agg [.lst (Uq (AV.int .i64) q.ow),.lst (gL (A++r::B))],.int .i64 0])],[]⟩:=
  Ren.of (m:=0) (p:=((q.ow.length=(Uq (AV.int .i64) q.ow).length/\(A.length+1+B.length)=(gL (A++r::B)).length/\True)/\True/\True)/\True) [] [0,1] [0] rfl ⟨⟨⟨(Tx ..).symm,by rw[BD,TQ,Ua];omega,trivial⟩,trivial,trivial⟩,trivial⟩ rfl rfl rfl
 exact⟨_,Ren.trans R1 R2,rfl,rfl⟩
def askSt(q:Aj)(c d:Int):Empty->St | x=>x.elim
def askHd:Empty->Nat | x=>x.elim
def MF(q:Aj)(c d:Int):Option (Empty⊕Ret):=br (k9E q c d != 0) (some (.inr ([],AV.tup [AV.agg [AV.nils,AV.nils],iV (k9E q c d)]))) (gu (q.qu.length<=1000) <|gu (∀(r:List Int),r∈q.qu->r.length<=1000) <|br (decide (0<=atZ q.qu c)) (some (.inr ([],AV.tup [AV.agg [AV.nils,AV.nils],iV 24]))) (gu (0<=d) <|el (q.ow) (d.toNat) fun(x25:Int)=>br (x25==c) (some (.inr ([],AV.tup [AV.agg [AV.nils,AV.nils],iV 24]))) (gu (q.ow.length<=1000) <|gu (0<=d/\d.toNat<q.qu.length) <|gu (∀(e:AV),e∈(Blk.mk (Uq (Dr (tau [] 2)) (AJ (Ut d.toNat q.qu) 2 (q.qu.getD d.toNat []).length (Us (d.toNat+1) q.qu))) 1 false true none).es->∀(c:AV),c∈e.cells->Bk 5 3 c=true) <|gu (d<iN ((Ut d.toNat q.qu).length+1+(Us (d.toNat+1) q.qu).length)) <|gu ((Uq (Dr (tau [] 2)) (AJ (Ut d.toNat q.qu) 2 (q.qu.getD d.toNat []).length (Us (d.toNat+1) q.qu)))[0+d.toNat]?=some (AV.sl 4 0 (q.qu.getD d.toNat []).length)) <|gu ((Uq iV (q.qu.getD d.toNat [])).length+[iV c].length<=9223372036854775807) <|gu (((Uq iV (q.qu.getD d.toNat [])).length+[iV c].length) * 8<=140737488355328) <|gu ((0+d.toNat).succ.le (Uq (Dr (tau [] 2)) (AJ (Ut d.toNat q.qu) 2 (q.qu.getD d.toNat []).length (Us (d.toNat+1) q.qu))).length) <|some (.inr (KG q c d)))))
def askStep(q:Aj)(c d:Int):Empty->Option (Empty⊕Ret) | x=>x.elim
theorem askEn_ok(q:Aj)(c d:Int)(o:Empty⊕Ret)(h:MF q c d=some o):Arr Ux Try.f61 0 (askSt q c d) askHd (zB Try.f61) [] {n:=Try.f61.ntmps,fr:=AI 0 ([lkA q,.int .i64 c,.int .i64 d]),hp:=([])} o:=AS.ok h mix (have c0:=k19_c (q.ow) (q.qu) c (d);.rn 2 [] [] [(12,hK c0 [] [])] [] (aj (u2 t3) (aj (u2 (u2 (u2 (aj (k3 (aj t3 (k2 (al (c0))))) s2)))) (al (u2 s2)))) <|.br (fun a0=>.rt [29] [] [] [] [] [] (aj (aj a0 (al (ak (u2 (aj (k2 n11) s2))))) (al (aj t3 t2)))) (fun a0=>.gu fun a1=>.gu fun a2=>.br (fun a3=>have c1:=Oq (q.ow) (q.qu) c a1 a2;.rt [28,43] [] [(19,hK c1 [] [])] [] [] [] (aj (aj a0 (aj (u2 (u2 (aj (k2 (aj t3 (ak (al (c1))))) (u2 (u2 (aj a3 (aj a3 (aj a3 (aj a3 (aj a3 (aj a3 (aj a3 (al (aj a3 t2)))))))))))))) (ak (al (ak (aj (k2 n11) t2)))))) (al (aj t3 t2)))) (fun a3=>.gu fun a4=>.el fun x25 a5=>have c1:=Oq (q.ow) (q.qu) c a1 a2;.rn 0 [28,42] [(25,iv x25)] [(19,hK c1 [] [])] [] (aj a0 (al (u2 (u2 (aj (k2 (aj t3 (ak (al (c1))))) (u2 (u2 (ag a3 (ag a3 (ag a3 (aj (aj a3 (k2 (aj a4 (Ar (f:=iv) a5)))) (ag a3 (ag a3 (aj (aj a3 t3) (al (aj a3 t2)))))))))))))))) <|.br (fun a6=>.rt [42,59] [] [] [] [] [] (aj (aj a6 (al (ak (aj (k2 n11) t2)))) (al (aj t3 t2)))) (fun a6=>.gu fun a7=>.gu fun a8=>have c2:=c19x_c (q.ow) (q.qu) d a7 a1 a2 a8;.rn 0 [42,58] [] [(32,hK c2 [] [])] [] (aj a6 (al (u2 (aj (ak (aj t3 (al (c2)))) (al (k2 (show Nat.le 1 [AV.agg [Uw (Uq iv q.ow),Uw (gL q.qu)]].length from(nL rfl)))))))) <|.gu fun a9=>.gu fun a10=>.gu fun a11=>.gu fun a12=>.gu fun a13=>.gu fun a14=>.rr [42] [(5003,AV.sl 5 0 0),(40,AV.sl 4 0 (q.qu.getD d.toNat []).length)] [] [] (St.mk 46 [] [some (Blk.mk [AV.agg [AV.sl 2 0 q.ow.length,AV.sl 3 0 ((Ut d.toNat q.qu).length+1+(Us (d.toNat+1) q.qu).length)]] 2 false true none),some (Blk.mk [AV.agg [AV.sl 2 0 q.ow.length,AV.sl 3 0 ((Ut d.toNat q.qu).length+1+(Us (d.toNat+1) q.qu).length)]] 2 false true none),some (bK (Uq iV q.ow) 1),some (Blk.mk ((Uq (Dr (tau [] 2)) (AJ (Ut d.toNat q.qu) 2 (q.qu.getD d.toNat []).length (Us (d.toNat+1) q.qu))).set (0+d.toNat) (AV.sl 6 0 ((Uq iV (q.qu.getD d.toNat [])).length+[iV c].length))) 1 false true none),none,some (bK [iV c] 1),some (bK (Uq iV (q.qu.getD d.toNat [])++[iV c]) 1)]) (AV.tup [AV.agg [AV.sl 2 0 q.ow.length,AV.sl 3 0 ((Ut d.toNat q.qu).length+1+(Us (d.toNat+1) q.qu).length)],iV 0]) (aj (aj t2 (aj t2 (aj t2 (aj t2 (aj t2 (aj t2 (aj (aj a9 (ak (ak (aj a4 a10)))) (aj (aj a9 (ak a11)) (aj t2 (aj t2 (aj (ak (ak (aj (show(Uq iV (q.qu.getD d.toNat [])).length=(q.qu.getD d.toNat []).length by simp) (aj (aj (show nat_lit 1=nat_lit 1 from rfl) (show 1<=[iV c].length by simp)) (aj a12 a13))))) (aj (aj a9 (ak (ak (aj a4 a10)))) (al (aj a9 (ak (ak a14)))))))))))))))) (al (aj t2 (aj (ak (ak (show Nat.le (nat_lit 1) (nat_lit 1) from(by first | exact nL rfl | decide)))) t2)))) (by apply askre<;>first | assumption | rfl))))) (by kernel_rfl)
theorem ask_ct(q:Aj)(c d:Int)(r:Ret)(h:Aq (askStep q c d) (MF q c d) r):CT Ux 61 ([]) ([lkA q,.int .i64 c,.int .i64 d]) r.1 r.2:=
 CT.mach (fn:=Try.f61) (c:=zB Try.f61) (S:=askSt q c d) (hd:=askHd) Try.func61 (by kernel_rfl) (nL rfl)
  (fun s o ho=>match s,ho with
   | x,_=>x.elim)
  (fun o ho=>askEn_ok q c d o ho) h
def lg1St(l:List Bool)(d c:Int)(x:Am)(q:Ac):Empty->St | x=>x.elim
def lg1Hd:Empty->Nat | x=>x.elim
def LP(l:List Bool)(d c:Int)(x:Am)(q:Ac):Option (Empty⊕Ret):=gu (0<=c) <|el l (c.toNat) fun(x9:Bool)=>br (!x9) (some (.inr ([some (bK [Uw (boL l)] 1),some (bK [iV d] 1),some (bK [AV.agg [AV.str x.nm,bV x.dep,iV x.i,iV x.o,iV x.k,iV x.b]] 6),some (bK [AV.agg [Uw (boL q.cl),Uw (Uq iV q.bw),Uw (Uq iV q.pe)]] 3)],bV true))) (br (c==d) (some (.inr ([some (bK [Uw (boL l)] 1),some (bK [iV d] 1),some (bK [AV.agg [AV.str x.nm,bV x.dep,iV x.i,iV x.o,iV x.k,iV x.b]] 6),some (bK [AV.agg [Uw (boL q.cl),Uw (Uq iV q.bw),Uw (Uq iV q.pe)]] 3)],bV true))) (br (c==x.i) (el (q.cl) (c.toNat) fun(x26:Bool)=>some (.inr ([some (bK [Uw (boL l)] 1),some (bK [iV d] 1),some (bK [AV.agg [AV.str x.nm,bV x.dep,iV x.i,iV x.o,iV x.k,iV x.b]] 6),some (bK [AV.agg [Uw (boL q.cl),Uw (Uq iV q.bw),Uw (Uq iV q.pe)]] 3)],bV !x26))) (some (.inr ([some (bK [Uw (boL l)] 1),some (bK [iV d] 1),some (bK [AV.agg [AV.str x.nm,bV x.dep,iV x.i,iV x.o,iV x.k,iV x.b]] 6),some (bK [AV.agg [Uw (boL q.cl),Uw (Uq iV q.bw),Uw (Uq iV q.pe)]] 3)],bV false)))))
def lg1Step(l:List Bool)(d c:Int)(x:Am)(q:Ac):Empty->Option (Empty⊕Ret) | x=>x.elim
theorem lg1En_ok(l:List Bool)(d c:Int)(x:Am)(q:Ac)(o:Empty⊕Ret)(h:LP l d c x q=some o):Arr Ux Try.f66 4 (lg1St l d c x q) lg1Hd (zB Try.f66) [] {n:=Try.f66.ntmps,fr:=AI 0 ([.int .i64 c,.ptr 0 0 0,.ptr 1 0 0,.ptr 2 0 0,.ptr 3 0 0]),hp:=([some (bK [.lst (boL l)] 1),some (bK [.int .i64 d] 1),some (bK [sA x] 6),some (bK [sgA q] 3)])} o:=Scr.ok h mix (.rn 0 [] [] [] [] s2 <|.gu fun a0=>.el fun x9 a1=>.br (fun a2=>.rt [25] [(9,bV x9)] [] [] [0,1,2,3] [] (aj (al (u2 (u2 (aj (k2 (aj a0 (Ar (f:=bV) a1))) (u2 (u2 (u2 (aj a2 (aj a2 (aj a2 (ag a2 (u2 (k2 (k5 (k5 (aj t3 s2)))))))))))))))) t6)) (fun a2=>.br (fun a3=>.rt [24,35] [(9,bV x9)] [] [] [0,1,2,3] [] (aj (al (u2 (u2 (aj (k2 (aj a0 (Ar (f:=bV) a1))) (u2 (u2 (u2 (ag a2 (ag a2 (aj (aj a2 t3) (ag a2 (u2 (aj a3 (aj a3 (aj a3 (aj a3 (aj a3 (ak (k5 (aj a3 (ag a3 s2))))))))))))))))))))) t6)) (fun a3=>.br (fun a4=>.el fun x26 a5=>.rt [24,34,45] [(9,bV x9),(26,bV x26)] [] [] [0,1,2,3] [] (aj (al (u2 (u2 (aj (k2 (aj a0 (Ar (f:=bV) a1))) (u2 (u2 (u2 (ag a2 (ag a2 (aj (aj a2 t3) (ag a2 (u2 (ag a3 (ag a3 (ag a3 (aj (aj a3 t3) (ag a3 (ag a4 (ag a4 (ag a4 (aj (aj a4 (k2 (aj a0 (Ar (f:=bV) a5)))) (ag a4 (ag a4 (aj (aj a3 (aj a4 t2)) (ag a3 s2))))))))))))))))))))))))) t6)) (fun a4=>.rt [24,34,44] [(9,bV x9)] [] [] [0,1,2,3] [] (aj (al (u2 (u2 (aj (k2 (aj a0 (Ar (f:=bV) a1))) (u2 (u2 (u2 (ag a2 (ag a2 (aj (aj a2 t3) (ag a2 (u2 (ag a3 (ag a3 (ag a3 (aj (aj a3 t3) (ag a3 (aj a4 (aj a4 (aj a4 (aj a4 (aj a4 (aj a4 (aj (aj a3 (aj a4 t2)) (ag a3 s2))))))))))))))))))))))))) t6))))) (by kernel_rfl)
theorem lg1_ct(l:List Bool)(d c:Int)(x:Am)(q:Ac)(r:Ret)(h:Aq (lg1Step l d c x q) (LP l d c x q) r):CT Ux 66 ([some (bK [.lst (boL l)] 1),some (bK [.int .i64 d] 1),some (bK [sA x] 6),some (bK [sgA q] 3)]) ([.int .i64 c,.ptr 0 0 0,.ptr 1 0 0,.ptr 2 0 0,.ptr 3 0 0]) r.1 r.2:=
 CT.mach (fn:=Try.f66) (c:=zB Try.f66) (S:=lg1St l d c x q) (hd:=lg1Hd) Try.func66 (by kernel_rfl) (nL rfl)
  (fun s o ho=>match s,ho with
   | x,_=>x.elim)
  (fun o ho=>lg1En_ok l d c x q o ho) h
def lg2St(d c:Int)(q:Ac):Empty->St | x=>x.elim
def lg2Hd:Empty->Nat | x=>x.elim
def LN(d c:Int)(q:Ac):Option (Empty⊕Ret):=gu (0<=c) <|el (q.cl) (c.toNat) fun(x8:Bool)=>br (!x8) (some (.inr ([some (bK [AV.agg [Uw (boL q.cl),Uw (Uq iV q.bw),Uw (Uq iV q.pe)]] 3),some (bK [iV d] 1)],bV true))) (some (.inr ([some (bK [AV.agg [Uw (boL q.cl),Uw (Uq iV q.bw),Uw (Uq iV q.pe)]] 3),some (bK [iV d] 1)],bV (c==d))))
def lg2Step(d c:Int)(q:Ac):Empty->Option (Empty⊕Ret) | x=>x.elim
theorem lg2En_ok(d c:Int)(q:Ac)(o:Empty⊕Ret)(h:LN d c q=some o):Arr Ux Try.f67 2 (lg2St d c q) lg2Hd (zB Try.f67) [] {n:=Try.f67.ntmps,fr:=AI 0 ([.int .i64 c,.ptr 0 0 0,.ptr 1 0 0]),hp:=([some (bK [sgA q] 3),some (bK [.int .i64 d] 1)])} o:=Scr.ok h mix (.rn 0 [] [] [] [] s2 <|.gu fun a0=>.el fun x8 a1=>.br (fun a2=>.rt [23] [(8,bV x8)] [] [] [0,1] [] (aj (al (u2 (u2 (u2 (aj (k2 (aj a0 (Ar (f:=bV) a1))) (u2 (u2 (u2 (aj a2 (aj a2 (aj a2 (ag a2 s2)))))))))))) t4)) (fun a2=>.rt [22] [(8,bV x8)] [] [] [0,1] [] (aj (al (u2 (u2 (u2 (aj (k2 (aj a0 (Ar (f:=bV) a1))) (u2 (u2 (u2 (ag a2 (ag a2 (aj (aj a2 t3) (ag a2 s2)))))))))))) t4))) (by kernel_rfl)
theorem lg2_ct(d c:Int)(q:Ac)(r:Ret)(h:Aq (lg2Step d c q) (LN d c q) r):CT Ux 67 ([some (bK [sgA q] 3),some (bK [.int .i64 d] 1)]) ([.int .i64 c,.ptr 0 0 0,.ptr 1 0 0]) r.1 r.2:=
 CT.mach (fn:=Try.f67) (c:=zB Try.f67) (S:=lg2St d c q) (hd:=lg2Hd) Try.func67 (by kernel_rfl) (nL rfl)
  (fun s o ho=>match s,ho with
   | x,_=>x.elim)
  (fun o ho=>lg2En_ok d c q o ho) h
def dt2St(l:List Bool)(d c:Int)(x:Am)(q:Ac):Empty->St | x=>x.elim
def dt2Hd:Empty->Nat | x=>x.elim
def Nc(l:List Bool)(d c:Int)(x:Am)(q:Ac):Option (Empty⊕Ret):=br (c != d) (gu (0<=c) <|el l (c.toNat) fun(x13:Bool)=>br (!x13) (some (.inr ([some (bK [iV d] 1),some (bK [Uw (boL l)] 1),some (bK [AV.agg [AV.str x.nm,bV x.dep,iV x.i,iV x.o,iV x.k,iV x.b]] 6),some (bK [AV.agg [Uw (boL q.cl),Uw (Uq iV q.bw),Uw (Uq iV q.pe)]] 3)],bV true))) (br (c==x.i) (el (q.cl) (c.toNat) fun(x25:Bool)=>some (.inr ([some (bK [iV d] 1),some (bK [Uw (boL l)] 1),some (bK [AV.agg [AV.str x.nm,bV x.dep,iV x.i,iV x.o,iV x.k,iV x.b]] 6),some (bK [AV.agg [Uw (boL q.cl),Uw (Uq iV q.bw),Uw (Uq iV q.pe)]] 3)],bV !x25))) (some (.inr ([some (bK [iV d] 1),some (bK [Uw (boL l)] 1),some (bK [AV.agg [AV.str x.nm,bV x.dep,iV x.i,iV x.o,iV x.k,iV x.b]] 6),some (bK [AV.agg [Uw (boL q.cl),Uw (Uq iV q.bw),Uw (Uq iV q.pe)]] 3)],bV false))))) (some (.inr ([some (bK [iV d] 1),some (bK [Uw (boL l)] 1),some (bK [AV.agg [AV.str x.nm,bV x.dep,iV x.i,iV x.o,iV x.k,iV x.b]] 6),some (bK [AV.agg [Uw (boL q.cl),Uw (Uq iV q.bw),Uw (Uq iV q.pe)]] 3)],bV false)))
def dt2Step(l:List Bool)(d c:Int)(x:Am)(q:Ac):Empty->Option (Empty⊕Ret) | x=>x.elim
theorem dt2En_ok(l:List Bool)(d c:Int)(x:Am)(q:Ac)(o:Empty⊕Ret)(h:Nc l d c x q=some o):Arr Ux Try.f90 4 (dt2St l d c x q) dt2Hd (zB Try.f90) [] {n:=Try.f90.ntmps,fr:=AI 0 ([.int .i64 c,.ptr 0 0 0,.ptr 1 0 0,.ptr 2 0 0,.ptr 3 0 0]),hp:=([some (bK [.int .i64 d] 1),some (bK [.lst (boL l)] 1),some (bK [sA x] 6),some (bK [sgA q] 3)])} o:=Scr.ok h mix (.rn 0 [] [] [] [] s2 <|.br (fun a0=>.gu fun a1=>.el fun x13 a2=>.br (fun a3=>.rt [21,33] [(13,bV x13)] [] [] [0,1,2,3] [] (aj (al (u2 (u2 (aj t3 (u2 (ag a0 (ag a0 (aj (aj a0 (k2 (aj a1 (Ar (f:=bV) a2)))) (ag a0 (ag a0 (ag a0 (aj a3 (aj a3 (aj a3 (aj a3 (aj a3 (ak (k5 (aj a3 (aj (aj a0 (aj a3 t2)) (ag a0 s2))))))))))))))))))))) t6)) (fun a3=>.br (fun a4=>.el fun x25 a5=>.rt [21,32,43] [(13,bV x13),(25,bV x25)] [] [] [0,1,2,3] [] (aj (al (u2 (u2 (aj t3 (u2 (ag a0 (ag a0 (aj (aj a0 (k2 (aj a1 (Ar (f:=bV) a2)))) (ag a0 (ag a0 (ag a0 (ag a3 (ag a3 (ag a3 (aj (aj a3 t3) (ag a3 (ag a4 (ag a4 (ag a4 (aj (aj a4 (k2 (aj a1 (Ar (f:=bV) a5)))) (ag a4 (ag a4 (aj (aj a3 (aj a4 t2)) (aj (aj a0 (aj a3 t2)) (ag a0 s2))))))))))))))))))))))))) t6)) (fun a4=>.rt [21,32,42] [(13,bV x13)] [] [] [0,1,2,3] [] (aj (al (u2 (u2 (aj t3 (u2 (ag a0 (ag a0 (aj (aj a0 (k2 (aj a1 (Ar (f:=bV) a2)))) (ag a0 (ag a0 (ag a0 (ag a3 (ag a3 (ag a3 (aj (aj a3 t3) (ag a3 (aj a4 (aj a4 (aj a4 (aj a4 (aj a4 (aj a4 (aj (aj a3 (aj a4 t2)) (aj (aj a0 (aj a3 t2)) (ag a0 s2))))))))))))))))))))))))) t6)))) (fun a0=>.rt [20] [] [] [] [0,1,2,3] [] (aj (al (u2 (u2 (aj t3 (u2 (aj a0 (aj a0 (aj a0 (aj a0 (aj a0 (aj a0 (k2 (k5 (k5 (aj a0 (ag a0 s2)))))))))))))))) t6))) (by kernel_rfl)
theorem dt2_ct(l:List Bool)(d c:Int)(x:Am)(q:Ac)(r:Ret)(h:Aq (dt2Step l d c x q) (Nc l d c x q) r):CT Ux 90 ([some (bK [.int .i64 d] 1),some (bK [.lst (boL l)] 1),some (bK [sA x] 6),some (bK [sgA q] 3)]) ([.int .i64 c,.ptr 0 0 0,.ptr 1 0 0,.ptr 2 0 0,.ptr 3 0 0]) r.1 r.2:=
 CT.mach (fn:=Try.f90) (c:=zB Try.f90) (S:=dt2St l d c x q) (hd:=dt2Hd) Try.func90 (by kernel_rfl) (nL rfl)
  (fun s o ho=>match s,ho with
   | x,_=>x.elim)
  (fun o ho=>dt2En_ok l d c x q o ho) h
def dt1St(n:Ab)(c:Int):Empty->St | x=>x.elim
def dt1Hd:Empty->Nat | x=>x.elim
def Nm(n:Ab)(c:Int):Option (Empty⊕Ret):=br (decide (0<=c)) (some (.inr ([some (bK [AV.agg [Uw (Uq bA n.bs),Uw (gL n.nx),Uw (Uq sA n.ss),Uw (Uq iV n.rs),iV n.q,iV n.a,iV n.d,iV n.p]] 8)],bV (decide (c<iN (Uq bA n.bs).length))))) (some (.inr ([some (bK [AV.agg [Uw (Uq bA n.bs),Uw (gL n.nx),Uw (Uq sA n.ss),Uw (Uq iV n.rs),iV n.q,iV n.a,iV n.d,iV n.p]] 8)],bV false)))
def dt1Step(n:Ab)(c:Int):Empty->Option (Empty⊕Ret) | x=>x.elim
theorem dt1En_ok(n:Ab)(c:Int)(o:Empty⊕Ret)(h:Nm n c=some o):Arr Ux Try.f89 1 (dt1St n c) dt1Hd (zB Try.f89) [] {n:=Try.f89.ntmps,fr:=AI 0 ([.int .i64 c,.ptr 0 0 0]),hp:=([some (bK [Af n] 8)])} o:=Scr.ok h mix (.rn 0 [] [] [] [] s2 <|.br (fun a0=>.rt [13] [] [] [] [0] [] (aj (al (u2 (u2 (u2 (ag a0 (ag a0 (ag a0 (ag a0 (aj (aj a0 t3) (ag a0 s2)))))))))) t3)) (fun a0=>.rt [12] [] [] [] [0] [] (aj (al (u2 (u2 (u2 (aj a0 (aj a0 (aj a0 (aj a0 (aj a0 (ag a0 s2)))))))))) t3))) (by kernel_rfl)
theorem dt1_ct(n:Ab)(c:Int)(r:Ret)(h:Aq (dt1Step n c) (Nm n c) r):CT Ux 89 ([some (bK [Af n] 8)]) ([.int .i64 c,.ptr 0 0 0]) r.1 r.2:=
 CT.mach (fn:=Try.f89) (c:=zB Try.f89) (S:=dt1St n c) (hd:=dt1Hd) Try.func89 (by kernel_rfl) (nL rfl)
  (fun s o ho=>match s,ho with
   | x,_=>x.elim)
  (fun o ho=>dt1En_ok n c o ho) h
def plcSt(n:Ab)(c:Int):Empty->St | x=>x.elim
def plcHd:Empty->Nat | x=>x.elim
def LC(n:Ab)(c:Int):Option (Empty⊕Ret):=gu (Rows n.nx) <|br (ckE n c != 0) (some (.inr ([],AV.tup [iV 0,iV 0,iV (ckE n c)]))) (gu (Ax n) <|gu (-1000<=c/\c<=1000) <|some (.inr ([],AV.tup [iV (plI n c),iV (plJ n c),iV 0])))
def plcStep(n:Ab)(c:Int):Empty->Option (Empty⊕Ret) | x=>x.elim
theorem plcEn_ok(n:Ab)(c:Int)(o:Empty⊕Ret)(h:LC n c=some o):Arr Ux Try.f62 0 (plcSt n c) plcHd (zB Try.f62) [] {n:=Try.f62.ntmps,fr:=AI 0 ([Af n,.int .i64 c]),hp:=([])} o:=Scr.ok h mix (.rn 0 [] [] [] [] (al (u2 t4)) <|.gu fun a0=>have c0:=ck_c n c a0;.rn 1 [] [] [(12,hK c0 [] [])] [] (aj (u2 (u2 (aj (k2 (aj t9 (ak (al (c0))))) s2))) (al (u2 s2))) <|.br (fun a1=>.rt [29] [] [] [] [] [] (aj (aj a1 (al (u2 (k2 s2)))) (al t4))) (fun a1=>.gu fun a2=>.gu fun a3=>have c1:=place_ct a2 c a3;.rt [28] [] [(19,hK c1 [] [])] [] [] [] (aj (aj a1 (aj (u2 (u2 (aj (k2 (aj t9 (ak (al (c1))))) (u2 (u2 (u2 (u2 s2))))))) (al (u2 (u2 (u2 (u2 t2))))))) (al t4)))) (by kernel_rfl)
theorem plc_ct(n:Ab)(c:Int)(r:Ret)(h:Aq (plcStep n c) (LC n c) r):CT Ux 62 ([]) ([Af n,.int .i64 c]) r.1 r.2:=
 CT.mach (fn:=Try.f62) (c:=zB Try.f62) (S:=plcSt n c) (hd:=plcHd) Try.func62 (by kernel_rfl) (nL rfl)
  (fun s o ho=>match s,ho with
   | x,_=>x.elim)
  (fun o ho=>plcEn_ok n c o ho) h
def shP(n:Ab)(s:Ac)(blk goal:Int):List Bool:=(Uu n.bs.length).map fun b:Nat=> !(!((AF s).getD b true)||((b:Int)==blk||((b:Int)==goal&&!(s.cl.getD b true))))
def shQ(n:Ab)(s:Ac)(blk:Int):List Bool:=(Uu n.bs.length).map fun b:Nat=> !(!(s.cl.getD b true)||(b:Int)==blk)
theorem PE{x:Nat}:∀{l:List Int} {c:List Bool},(l.foldl (fun c b=>c.set b.toNat true) c).getD x true=false->c.getD x true=false:=by
 intro l;induction l with
 | nil=>intro c h;exact h
 | cons y l ih=>
  intro c h;have:=ih h;rw[I1] at this;split at this
  .cases this
  .exact this
theorem Pm{f:Nat->Bool}{m x:Nat}{d:Bool}(h:x<m):((Uu m).map f).getD x d=f x:=by rw[Tv,TE,TT h];rfl
theorem KW(n:Ab)(s:Ac)(a b:Int):(shP n s a b).length=n.bs.length:=by unfold shP;simp
theorem I8(n:Ab)(s:Ac)(a:Int):(shQ n s a).length=n.bs.length:=by unfold shQ;simp
theorem okg{n:Ab}(hv:Ax n)(hrw:Rows n.nx){s:List Bool}(hs:s.length=n.bs.length):OkG n.nx s/\Asc n.nx:=by obtain⟨hg,ha⟩:=IP hrw hv.chk;have hl:=hv.nx;exact⟨⟨hg.len,hg.row,by omega⟩,ha⟩
def AD(n:Ab)(s:Ac)(blk goal:Int):List Int:=if AL n.nx (shP n s blk goal) blk.toNat goal.toNat=[] then AL n.nx (shQ n s blk) blk.toNat goal.toNat else AL n.nx (shP n s blk goal) blk.toNat goal.toNat
theorem ML{n:Ab}(hv:Ax n)(hrw:Rows n.nx){sh:List Bool}(hl:sh.length=n.bs.length){a b:Nat}(ha:a<n.bs.length)(hb:b<n.bs.length):AL n.nx sh a b=[]\/(0<=dsS n.nx sh a b/\Pth n.nx sh a b (AL n.nx sh a b)):=by
 have hn:=hv.nx;obtain⟨hg,_⟩:=okg hv hrw hl;cases Int.lt_or_le (dsS n.nx sh a b) 0 with
 | inl h=>exact .inl (Pp h)
 | inr h=>exact .inr ⟨h,K6 hg (by omega) (by omega) h⟩
theorem legP_ok{n:Ab}(hv:Ax n)(hrw:Rows n.nx){s:Ac}{blk goal:Int}(hb:0<=blk/\blk<(n.bs.length:Int))(hg:0<=goal/\goal<(n.bs.length:Int))(hne:AD n s blk goal≠[]):
  ∃sh,Pth n.nx sh blk.toNat goal.toNat (AD n s blk goal)/\∀x∈(AD n s blk goal).tail,0<=x/\x<(n.bs.length:Int)/\x≠blk/\s.cl.getD x.toNat true=false:=by
 have hn:=hv.nx;have key:∀sh:List Bool,Pth n.nx sh blk.toNat goal.toNat (AD n s blk goal)->(∀b:Nat,b<n.bs.length->(b:Int)≠blk->sh.getD b false=false->s.cl.getD b true=false)->∃sh,Pth n.nx sh blk.toNat goal.toNat (AD n s blk goal)/\∀x∈(AD n s blk goal).tail,0<=x/\x<(n.bs.length:Int)/\x≠blk/\s.cl.getD x.toNat true=false:=by
  intro sh hp ho;refine⟨sh,hp,fun x hx=>?_⟩;obtain⟨i,hi,rfl⟩:=T7.1 hx;rw[List.length_tail] at hi;have e:(AD n s blk goal).tail[i]=(AD n s blk goal).getD (i+1) 0:=by rw[List.getElem_tail,Tv,Tu (show i+1<(AD n s blk goal).length by omega)];rfl
  rw[e];obtain⟨r1,r2,r3⟩:=hp.rng (i+1) (by omega);have r4:=hp.nv (i+1) (by omega) (by omega);rw[hn] at r2;have r5:(AD n s blk goal).getD (i+1) 0≠blk:=by omega
  exact⟨r1,r2,r5,ho _ (by omega) (by omega) r3⟩
 have hP:=ML hv hrw (KW n s blk goal) (a:=blk.toNat) (b:=goal.toNat) (by omega) (by omega);have hQ:=ML hv hrw (I8 n s blk) (a:=blk.toNat) (b:=goal.toNat) (by omega) (by omega);by_cases h:AL n.nx (shP n s blk goal) blk.toNat goal.toNat=[]
 .have e:AD n s blk goal=AL n.nx (shQ n s blk) blk.toNat goal.toNat:=by unfold AD;rw[Ts h]
  refine key (shQ n s blk) ?_ fun b hb hne ho=>?_
  .rw[e];exact(hQ.resolve_left fun h2=>hne (e.trans h2)).2
  .unfold shQ at ho;rw[Pm hb] at ho;have:((b:Int)==blk)=false:=by simpa using hne
   rw[this] at ho;simpa using ho
 .have e:AD n s blk goal=AL n.nx (shP n s blk goal) blk.toNat goal.toNat:=by unfold AD;rw[Tt h]
  refine key (shP n s blk goal) ?_ fun b hb hne ho=>?_
  .rw[e];exact(hP.resolve_left h).2
  .unfold shP at ho;rw[Pm hb] at ho;have:((b:Int)==blk)=false:=by simpa using hne
   rw[this] at ho;cases hc:s.cl.getD b true with
   | false=>rfl
   | true=>
    have hsl:(AF s).getD b true=true:=by
     cases h2:(AF s).getD b true with
     | true=>rfl
     | false=>exfalso;exact absurd (PE h2) (by rw[hc];simp)
    rw[hc,hsl] at ho;simp at ho
def Bh(n:Ab)(s:Ac)(c sp:Int):Option (List Int):=match plF n c with
 | some i=>if (i:Int)=sp then some (Ad (n.ss.getD i s0) (c-(n.ss.getD i s0).b+1))
  else if AD n s (n.ss.getD i s0).o (n.ss.getD sp.toNat s0).i=[] then none
  else some (Ad (n.ss.getD i s0) (c-(n.ss.getD i s0).b+1)++([(n.ss.getD i s0).o]++((AD n s (n.ss.getD i s0).o (n.ss.getD sp.toNat s0).i).tail++Ad (n.ss.getD sp.toNat s0) 0)))
 | none=>if AD n s c (n.ss.getD sp.toNat s0).i=[] then none else some ((AD n s c (n.ss.getD sp.toNat s0).i).tail++Ad (n.ss.getD sp.toNat s0) 0)
def Bg(n:Ab)(s:Ac)(c sp:Int):List Int×Bool:=match Bh n s c sp with
 | some l=>if AW s.cl l=true then (l,true) else ([],false)
 | none=>([],false)
def Bn(n:Ab)(s:Ac)(c sp:Int):Int:=if Br n s=true then (if (0<=c/\c<(Au n:Int))/\0<=sp/\sp<(n.ss.length:Int) then 0 else 19) else 20
theorem Ih{n:Ab}(hv:Ax n){i:Nat}{t:Am}(ht:n.ss[i]?=some t){j:Int}(hj:0<=j):∀x∈Ad t j,0<=x/\x<(Au n:Int):=fun x hx=>by have:=Pd.1 hx;have he:=hv.ends ht;have hb:=hv.sb ht;omega
theorem Ql{n:Ab}(hv:Ax n)(hrw:Rows n.nx){s:Ac}{c sp:Int}(hc:0<=c/\c<(Au n:Int))(hsp:0<=sp/\sp<(n.ss.length:Int)){l:List Int}(h:Bh n s c sp=some l):
  ∀x∈l,0<=x/\x<(Au n:Int):=by
 have hs:=AR s0 (show sp.toNat<n.ss.length by omega);have ge:=hv.goodT _ _ hs;have gi:=ge.hi;have hce:=hv.cel;have hpt:∀{blk:Int},(0<=blk/\blk<(n.bs.length:Int))->AD n s blk (n.ss.getD sp.toNat s0).i≠[]->∀x∈(AD n s blk (n.ss.getD sp.toNat s0).i).tail,0<=x/\x<(Au n:Int):=fun hb hne x hx=>by obtain⟨sh,_,h⟩:=legP_ok hv hrw hb (by omega) hne;have:=h x hx;omega
 unfold Bh at h;cases hp:plF n c with
 | none=>
  have hb:=J4 hv hc.1 hc.2 hp;rw[hp] at h;simp only at h;split at h
  .cases h
  .rename_i hne;cases h;intro x hx;rcases T0.1 hx with hx | hx
   .exact hpt ⟨hc.1,hb⟩ hne x hx
   .exact Ih hv hs (Int.le_refl _) x hx
 | some i=>
  obtain⟨t,ht,hg,h1,h2,hil⟩:=GX hp;have gt:=hv.goodT _ _ ht;have go:=gt.ho;rw[hp] at h;simp only[hg] at h;split at h
  .cases h;exact Ih hv ht (by omega)
  .split at h
   .cases h
   .rename_i hne;cases h;intro x hx;rcases T0.1 hx with hx | hx
    .exact Ih hv ht (by omega) x hx
    rcases T0.1 hx with hx | hx
    .rw[Tj.1 hx];omega
    rcases T0.1 hx with hx | hx
    .exact hpt (by omega) hne x hx
    .exact Ih hv hs (Int.le_refl _) x hx
theorem Jo{n:Ab}{s:Ac}{c sp:Int}:((Bg n s c sp).2=true->Bh n s c sp=some (Bg n s c sp).1/\AW s.cl (Bg n s c sp).1=true)/\((Bg n s c sp).2=false->(Bg n s c sp).1=[]):=by
 unfold Bg;cases Bh n s c sp with
 | none=>exact⟨fun h=>(by cases h),fun _=>rfl⟩
 | some l=>
  simp only;split
  .rename_i h;exact⟨fun _=>⟨rfl,h⟩,fun h=>(by cases h)⟩
  .exact⟨fun h=>(by cases h),fun _=>rfl⟩
def dtH(n:Ab)(s:Ac)(blk goal:Int):List Bool:=(Uu n.bs.length).map fun b:Nat=> !(!((b:Int)==blk)&&(!((AF s).getD b true)||((b:Int)==goal&&!(s.cl.getD b true))))
theorem Er(n:Ab)(s:Ac)(a b:Int):(dtH n s a b).length=n.bs.length:=by unfold dtH;simp
def dtD(n:Ab)(s:Ac)(blk goal c:Int):Int:=dsS n.nx (dtH n s blk goal) c.toNat goal.toNat
def dtX(l:Aj)(s:Ac)(wanted c:Int):Bool:=(c==wanted)||((AF s).getD c.toNat true||((l.ow.getD c.toNat 0 != -1)||decide (0<(l.qu.getD c.toNat []).length)))
def dtI(n:Ab)(s:Ac)(l:Aj)(blk wanted goal:Int):Nat->Int | 0=> -1 | k+1=>if dtX l s wanted ((n.nx.getD blk.toNat []).getD k 0)=true then dtI n s l blk wanted goal k else if dtD n s blk goal ((n.nx.getD blk.toNat []).getD k 0)<0 then dtI n s l blk wanted goal k else if dtI n s l blk wanted goal k<0\/dtD n s blk goal ((n.nx.getD blk.toNat []).getD k 0)<dtD n s blk goal (dtI n s l blk wanted goal k) then (n.nx.getD blk.toNat []).getD k 0 else dtI n s l blk wanted goal k
theorem G3{n:Ab}{s:Ac}{l:Aj}{blk wanted goal:Int}:∀k,k<=(n.nx.getD blk.toNat []).length->dtI n s l blk wanted goal k = -1\/(dtI n s l blk wanted goal k∈n.nx.getD blk.toNat []/\dtX l s wanted (dtI n s l blk wanted goal k)=false/\0<=dtD n s blk goal (dtI n s l blk wanted goal k)):=by
 intro k;induction k with
 | zero=>intro _;exact .inl rfl
 | succ k ih=>
  intro hk;have hi:=ih (by omega);unfold dtI;split
  .exact hi
  .rename_i h1;split
   .exact hi
   .rename_i h2;split
    .exact .inr ⟨Ga (by omega),by simpa using h1,by omega⟩
    .exact hi
def dtB(n:Ab)(s:Ac)(l:Aj)(blk wanted goal:Int):Int:=dtI n s l blk wanted goal (n.nx.getD blk.toNat []).length
def dtP(n:Ab)(s:Ac)(blk goal c:Int):List Int:=AL n.nx (dtH n s blk goal) c.toNat goal.toNat
def dtR(n:Ab)(s:Ac)(l:Aj)(blk wanted sp:Int):Option (List Int):=if dtB n s l blk wanted (n.ss.getD sp.toNat s0).i<0 then none else some (dtP n s blk (n.ss.getD sp.toNat s0).i (dtB n s l blk wanted (n.ss.getD sp.toNat s0).i)++Ad (n.ss.getD sp.toNat s0) 0)
def dtS(n:Ab)(s:Ac)(l:Aj)(blk wanted sp:Int):List Int×Bool:=match dtR n s l blk wanted sp with
 | some x=>if AW s.cl x=true then (x,true) else ([],false)
 | none=>([],false)
def dtE(n:Ab)(s:Ac)(l:Aj)(blk wanted sp:Int):Int:=if Br n s=true/\B3 l=true/\l.ow.length=s.cl.length then (if (0<=blk/\blk<(n.bs.length:Int))/\(0<=wanted/\wanted<(n.bs.length:Int))/\0<=sp/\sp<(n.ss.length:Int) then 0 else 19) else 20
theorem Ov{n:Ab}(hv:Ax n)(hrw:Rows n.nx){s:Ac}{blk goal c:Int}(hc:0<=c/\c<(n.bs.length:Int))(hg:0<=goal/\goal<(n.bs.length:Int))(h:0<=dtD n s blk goal c):
  Pth n.nx (dtH n s blk goal) c.toNat goal.toNat (dtP n s blk goal c)/\∀x∈dtP n s blk goal c,0<=x/\x<(n.bs.length:Int)/\x≠blk/\s.cl.getD x.toNat true=false:=by
 have hn:=hv.nx;have hp:=K6 (okg hv hrw (Er n s blk goal)).1 (v:=c.toNat) (goal:=goal.toNat) (by omega) (by omega) h;refine⟨hp,fun x hx=>?_⟩;obtain⟨i,hi,rfl⟩:=T7.1 hx;obtain⟨r1,r2,r3⟩:=hp.rng i hi;have e:(AL n.nx (dtH n s blk goal) c.toNat goal.toNat).getD i 0=(dtP n s blk goal c)[i]:=by show(dtP n s blk goal c).getD i 0=_;rw[Tv,Tu hi];rfl
 rw[e] at r1 r2 r3;generalize (dtP n s blk goal c)[i]=x at *;rw[hn] at r2;unfold dtH at r3;have hx:x.toNat<n.bs.length:=by omega
 rw[Tv,TE,TT hx] at r3;simp only[Option.map_some,Option.getD_some,Bool.not_eq_false',TC,Uf,T5,T6] at r3;refine⟨r1,r2,by omega,?_⟩;rcases r3.2 with h | h
 .exact PE h
 .exact h.2
theorem Qp{n:Ab}(hv:Ax n)(hrw:Rows n.nx){s:Ac}{l:Aj}{blk wanted sp:Int}(hb:0<=blk/\blk<(n.bs.length:Int))(hsp:0<=sp/\sp<(n.ss.length:Int)){x:List Int}(h:dtR n s l blk wanted sp=some x):
  ∃(c:Int) (r:List Int),x=c::r/\0<=c/\c<(n.bs.length:Int)/\dtX l s wanted c=false/\blk∉x/\Chn n blk x/\DL blk x=G2 (n.ss.getD sp.toNat s0)/\∀y∈x,0<=y/\y<(Au n:Int):=by
 have hs:=AR s0 (show sp.toNat<n.ss.length by omega);have gi:=(hv.goodT _ _ hs).hi;have hce:=hv.cel;unfold dtR at h;split at h
 .cases h
 .rename_i hneg;cases h;rcases G3 (n:=n) (s:=s) (l:=l) (blk:=blk) (wanted:=wanted) (goal:=(n.ss.getD sp.toNat s0).i) (n.nx.getD blk.toNat []).length (TF _) with h | ⟨h1,h2,h3⟩
  .unfold dtB at hneg;omega
  .have hc:=(hv.lanes hrw (show blk.toNat<n.bs.length by omega)).1 _ h1;unfold dtB at *;generalize dtI n s l blk wanted (n.ss.getD sp.toNat s0).i (n.nx.getD blk.toNat []).length=c at *;obtain⟨hp,hx⟩:=Ov hv hrw (s:=s) (blk:=blk) hc (goal:=(n.ss.getD sp.toNat s0).i) (by omega) h3;obtain⟨p1,p2⟩:=pth_chn hv hp;obtain⟨q1,q2⟩:=slt_all hv hs;rw[TX hc.1] at p1 p2;rw[TX (by omega)] at p2;have e:dtP n s blk (n.ss.getD sp.toNat s0).i c=c::(dtP n s blk (n.ss.getD sp.toNat s0).i c).tail:=by
    have hpos:=hp.pos;have hhd:=hp.hd;cases hq:dtP n s blk (n.ss.getD sp.toNat s0).i c with
    | nil=>rw[hq] at hpos;exact absurd hpos (Nat.lt_irrefl _)
    | cons y r=>rw[hq] at hhd;simp at hhd;rw[List.tail_cons];congr 1;omega
   have hlane:EZ n blk c=true:=NX hv hb.1 hb.2 h1;refine⟨c,(dtP n s blk (n.ss.getD sp.toNat s0).i c).tail++Ad (n.ss.getD sp.toNat s0) 0,by rw[<-List.cons_append,<-e],hc.1,hc.2,h2,fun hm=>?_,?_,?_,fun y hy=>?_⟩
   .rcases T0.1 hm with hm | hm
    .exact(hx _ hm).2.2.1 rfl
    .have:=Pd.1 hm;have hsb:=(hv.sb hs).2.2.2.2;have hm:=Gn hv (i:=0) (j:=sp.toNat) (by omega) (by omega);have h0:AA n 0=(n.bs.length:Int):=by unfold AA;simp
     omega
   .rw[e,List.cons_append];exact⟨hlane,p1.app (by rw[p2];exact q1)⟩
   .rw[e,List.cons_append];show DL c _=_;rw[PB,p2];exact q2
   .rcases T0.1 hy with hm | hm
    .have:=hx _ hm;omega
    .exact Ih hv hs (Int.le_refl _) y hm
theorem Ou{n:Ab}{s:Ac}{l:Aj}{blk wanted sp:Int}:((dtS n s l blk wanted sp).2=true->dtR n s l blk wanted sp=some (dtS n s l blk wanted sp).1/\AW s.cl (dtS n s l blk wanted sp).1=true)/\((dtS n s l blk wanted sp).2=false->(dtS n s l blk wanted sp).1=[]):=by
 unfold dtS;cases dtR n s l blk wanted sp with
 | none=>exact⟨fun h=>(by cases h),fun _=>rfl⟩
 | some x=>
  simp only;split
  .rename_i h;exact⟨fun _=>⟨rfl,h⟩,fun h=>(by cases h)⟩
  .exact⟨fun h=>(by cases h),fun _=>rfl⟩
def Ij(cl:List Bool)(l:List Int):Int:=match fnd (fun i=>cl.getD (l.getD i 0).toNat true) 0 l.length with | some i=>(i:Int) | none=> -1
theorem pasZ_b(cl:List Bool)(l:List Int):decide (0<=Ij cl l)=!(AW cl l):=by
 unfold Ij AW;cases fnd (fun i=>cl.getD (l.getD i 0).toNat true) 0 l.length with
 | none=>rfl
 | some i=>simp
theorem lg1_c(l:List Bool)(d c:Int)(x:Am)(q:Ac)(hc:0<=c/\c<(l.length:Int)/\c<(q.cl.length:Int)):CT Ux 66 [some (Blk.mk [.lst (boL l)] 1 true true none),some (Blk.mk [.int .i64 d] 1 true true none),some (Blk.mk [sA x] 6 true true none),some (Blk.mk [sgA q] 3 true true none)] [.int .i64 c,.ptr 0 0 0,.ptr 1 0 0,.ptr 2 0 0,.ptr 3 0 0] [some (Blk.mk [.lst (boL l)] 1 true true none),some (Blk.mk [.int .i64 d] 1 true true none),some (Blk.mk [sA x] 6 true true none),some (Blk.mk [sgA q] 3 true true none)] (.bool (!(l.getD c.toNat true)||(c==d||(c==x.i&&!(q.cl.getD c.toNat true))))):=by refine lg1_ct l d c x q ([_,_,_,_],_) (.val ?_);unfold LP;rw[Aa hc.1,AH (AR true (show c.toNat<l.length by omega)),AH (AR true (show c.toNat<q.cl.length by omega))];cases l.getD c.toNat true<;>cases c==d<;>cases c==x.i<;>rfl
theorem lg2_c(d c:Int)(q:Ac)(hc:0<=c/\c<(q.cl.length:Int)):CT Ux 67 [some (Blk.mk [sgA q] 3 true true none),some (Blk.mk [.int .i64 d] 1 true true none)] [.int .i64 c,.ptr 0 0 0,.ptr 1 0 0] [some (Blk.mk [sgA q] 3 true true none),some (Blk.mk [.int .i64 d] 1 true true none)] (.bool (!(q.cl.getD c.toNat true)||c==d)):=by refine lg2_ct d c q ([_,_],_) (.val ?_);unfold LN;rw[Aa hc.1,AH (AR true (show c.toNat<q.cl.length by omega))];cases q.cl.getD c.toNat true<;>rfl
theorem dt2_c(l:List Bool)(d c:Int)(x:Am)(q:Ac)(hc:0<=c/\c<(l.length:Int)/\c<(q.cl.length:Int)):CT Ux 90 [some (Blk.mk [.int .i64 d] 1 true true none),some (Blk.mk [.lst (boL l)] 1 true true none),some (Blk.mk [sA x] 6 true true none),some (Blk.mk [sgA q] 3 true true none)] [.int .i64 c,.ptr 0 0 0,.ptr 1 0 0,.ptr 2 0 0,.ptr 3 0 0] [some (Blk.mk [.int .i64 d] 1 true true none),some (Blk.mk [.lst (boL l)] 1 true true none),some (Blk.mk [sA x] 6 true true none),some (Blk.mk [sgA q] 3 true true none)] (.bool (!(c==d)&&(!(l.getD c.toNat true)||(c==x.i&&!(q.cl.getD c.toNat true))))):=by refine dt2_ct l d c x q ([_,_,_,_],_) (.val ?_);unfold Nc;rw[Aa hc.1,AH (AR true (show c.toNat<l.length by omega)),AH (AR true (show c.toNat<q.cl.length by omega))];have e:(c != d)=!(c==d):=rfl;rw[e];cases l.getD c.toNat true<;>cases c==d<;>cases c==x.i<;>rfl
theorem FQ(n:Ab)(c:Int):CT Ux 89 [some (Blk.mk [Af n] 8 true true none)] [.int .i64 c,.ptr 0 0 0] [some (Blk.mk [Af n] 8 true true none)] (.bool (decide (0<=c)&&decide (c<(n.bs.length:Int)))):=by refine dt1_ct n c ([_],_) (.val ?_);unfold Nm;rw[Tx];cases decide (0<=c)<;>rfl
def plO(n:Ab)(c:Int):Int:=if ckE n c=0 then plI n c else 0
def pjO(n:Ab)(c:Int):Int:=if ckE n c=0 then plJ n c else 0
theorem plc_c{n:Ab}(c:Int)(hrw:Rows n.nx):CT Ux 62 [] [Af n,.int .i64 c] [] (.tup [.int .i64 (plO n c),.int .i64 (pjO n c),.int .i64 (ckE n c)]):=by
 refine plc_ct n c ([],_) (.val ?_);unfold LC plO pjO;rw[Aa hrw];by_cases h:ckE n c=0
 .obtain⟨hv,h0,h1⟩:=ckE_ok h;have:=hv.cel;rw[Ae (by rw[h];rfl),Aa hv,Aa (by omega),Ts h,Ts h,h]
 .rw[Ak (Uh.2 h),Tt h,Tt h]
theorem dis_c{g:List (List Int)}{s:List Bool}(w:Int)(hg:OkG g s)(hw:0<=w/\w<(g.length:Int)):CT Ux 71 [] [.lst (gL g),.lst (boL s),.int .i64 w] [] (lI (AE g s w.toNat g.length)):=by have:=QV hg w.toNat (by omega);rw[TX hw.1] at this;exact this
theorem hop_c{g:List (List Int)}{d:List Int}(v:Int)(hg:OkG g (Ur g.length false))(hd:d.length=g.length)(hsm:Dw d)(hv:0<=v/\v<(g.length:Int)):CT Ux 139 [] [.lst (gL g),lI d,.int .i64 v] [] (.int .i64 (B1 g d v.toNat)):=by have:=hop_ct hg d hd hsm v.toNat (by omega);rw[TX hv.1] at this;exact this
theorem chkp_c{g:List (List Int)}(s:List Bool)(v w:Int)(hrw:Rows g):CT Ux 70 [] [.lst (gL g),.lst (boL s),.int .i64 v,.int .i64 w] [] (.int .i64 (C2 g s v w)):=Rg hrw v w
inductive EG where | l0 (v0:List Int) (v1 v2:Int)
def GS(g:List (List Int))(l:List Bool)(p q:Int):EG->St | .l0 v0 v1 v2=>St.mk 52 [(0,Uw (gL g)),(11,Uw (Uq iv (AE g l q.toNat g.length))),(12,AV.sl 0 0 v0.length),(35,iv v1),(36,iv v2)] [some (bK (Uq iv v0) 1)]
def Ms:EG->Nat | .l0 _ _ _=>0
def Nk(g:List (List Int))(l:List Bool)(p q:Int):Option (EG⊕Ret):=gu (Rows g) <|br (C2 g l p q != 0) (some (.inr ([],AV.tup [AV.nils,iV (C2 g l p q)]))) (gu (OkG g l) <|gu (0<=q/\q<iN g.length) <|gu (0<=p) <|el (AE g l q.toNat g.length) (p.toNat) fun(x27:Int)=>br (decide (x27<0)) (some (.inr ([],AV.tup [AV.nils,iV 0]))) (el (AE g l q.toNat g.length) (p.toNat) fun(x34:Int)=>some (.inl (.l0 ([p]) x34 ((0:Int))))))
def GJ(g:List (List Int))(l:List Bool)(p q:Int)(v0:List Int)(v1 v2:Int):Option (EG⊕Ret):=br (decide (v2<v1)) (gu (0<=i64.wrap (iN v0.length-1)) <|gu (i64.wrap (iN v0.length-1)<iN v0.length) <|el v0 (0+(i64.wrap (iN v0.length-1)).toNat) fun(x46:Int)=>gu (OkG g (Ur g.length false)) <|gu ((AE g l q.toNat g.length).length=g.length) <|gu (Dw (AE g l q.toNat g.length)) <|gu (0<=x46/\x46<iN g.length) <|gu ((Uq iV v0).length+[iV (B1 g (AE g l q.toNat g.length) x46.toNat)].length<=9223372036854775807) <|gu (((Uq iV v0).length+[iV (B1 g (AE g l q.toNat g.length) x46.toNat)].length) * 8<=140737488355328) <|some (.inl (.l0 (v0++[B1 g (AE g l q.toNat g.length) x46.toNat]) v1 (i64.wrap (v2+1))))) (some (.inr ([some (bK (Uq iV v0) 1)],AV.tup [AV.sl 0 0 v0.length,iV 0])))
def ptkStep(g:List (List Int))(l:List Bool)(p q:Int):EG->Option (EG⊕Ret) | .l0 v0 v1 v2=>GJ g l p q v0 v1 v2
theorem ptkEn_ok(g:List (List Int))(l:List Bool)(p q:Int)(o:EG⊕Ret)(h:Nk g l p q=some o):Arr Ux Try.f111 0 (GS g l p q) Ms (zB Try.f111) [] {n:=Try.f111.ntmps,fr:=AI 0 ([.lst (gL g),.lst (boL l),.int .i64 p,.int .i64 q]),hp:=([])} o:=Scr.ok h mix (.rn 0 [] [] [] [] (al t3) <|.gu fun a0=>have c0:=chkp_c l p q a0;.rn 1 [] [] [(17,hK c0 [] [])] [] (aj (u2 (u2 (u2 (u2 (aj (k3 (k5 (al (c0)))) s2))))) (al (u2 s2))) <|.br (fun a1=>.rt [39] [] [] [] [] [] (aj (aj a1 (al (u2 (ak s2)))) (al t3))) (fun a1=>.gu fun a2=>.gu fun a3=>have c1:=dis_c q a2 a3;.rn 0 [38] [] [(24,hK c1 [] [])] [] (aj a1 (al (u2 (u2 (u2 (aj (ak (k5 (al (c1)))) s2)))))) <|.gu fun a4=>.el fun x27 a5=>.rn 0 [] [(27,iv x27)] [] [] (al (u2 (u2 (aj (k2 (aj a4 (Ar (f:=iv) a5))) (u2 s2))))) <|.br (fun a6=>.rt [59] [] [] [] [] [] (aj (aj a6 (al t3)) (al t3))) (fun a6=>.rn 0 [58] [] [] [] (aj a6 (al (u2 (u2 s2)))) <|.el fun x34 a7=>.lp [] [(34,iv x34)] [] [] [] [0] [0,11,12,35,36] (aj (al (u2 (u2 (aj (k2 (aj a4 (Ar (f:=iv) a7))) (u2 t2))))) t7)))) (by kernel_rfl)
theorem ptkS0_ok(g:List (List Int))(l:List Bool)(p q:Int)(v0:List Int)(v1 v2:Int)(o:EG⊕Ret)(h:GJ g l p q v0 v1 v2=some o):Arr Ux Try.f111 0 (GS g l p q) Ms (Av Try.f111 0) (.rnd (Av Try.f111 0)::AK Try.f111 0) (GS g l p q (.l0 v0 v1 v2)) o:=Scr.ok h mix (.rn 0 [] [] [] [] (al (al t3)) <|.br (fun a0=>.gu fun a1=>.gu fun a2=>.el fun x46 a3=>.gu fun a4=>.gu fun a5=>.gu fun a6=>.gu fun a7=>.gu fun a8=>.gu fun a9=>have c0:=hop_c x46 a4 a5 a6 a7;.lq [75] [(46,iv x46)] [(47,hK c0 [] [])] [] [] [2] [0,11,12,35,36] (up [(12,AV.sl 0 0 ((Uq iv v0).length+[iv (B1 g (AE g l q.toNat g.length) x46.toNat)].length))] [(0,Uq iv v0++[iv (B1 g (AE g l q.toNat g.length) x46.toNat)])] (GS g l p q (.l0 (v0++[B1 g (AE g l q.toNat g.length) x46.toNat]) v1 (i64.wrap (v2+1))))) (aj (aj a0 (aj (u2 (u2 (u2 (u2 (u2 (u2 (u2 (aj (k2 (aj a1 a2)) (aj (ak (Ar (f:=iv) a3)) (aj (ak (k5 (al (c0)))) (u2 (aj (k2 (aj (show(Uq iv v0).length=v0.length by simp) (aj (aj (show nat_lit 1=nat_lit 1 from rfl) (show 1<=[iv (B1 g (AE g l q.toNat g.length) x46.toNat)].length by simp)) (aj a8 a9)))) s2)))))))))))) (al (u2 s2)))) t7) (by simp[up,upF,upV,upH,upB,GS,gL,boL,lI])) (fun a0=>.rt [74] [] [] [] [0] [] (aj (aj a0 (al (u2 (u2 t2)))) (aj t3 t2)))) (by kernel_rfl)
theorem ptk_ct(g:List (List Int))(l:List Bool)(p q:Int)(r:Ret)(h:Aq (ptkStep g l p q) (Nk g l p q) r):CT Ux 111 ([]) ([.lst (gL g),.lst (boL l),.int .i64 p,.int .i64 q]) r.1 r.2:=
 CT.mach (fn:=Try.f111) (c:=zB Try.f111) (S:=GS g l p q) (hd:=Ms) Try.func111 (by kernel_rfl) (nL rfl)
  (fun s o ho=>match s,ho with
   | .l0 v0 v1 v2,ho=>ptkS0_ok g l p q v0 v1 v2 o ho
  )
  (fun o ho=>ptkEn_ok g l p q o ho) h
theorem pthK{g:List (List Int)}(l:List Bool)(p q:Int)(hrw:Rows g):CT Ux 111 [] [.lst (gL g),.lst (boL l),.int .i64 p,.int .i64 q] [some (Blk.mk ((Ah g l p q).1.map (AV.int .i64)) 1 true true none)] (.tup [.sl 0 0 (Ah g l p q).1.length,.int .i64 (Ah g l p q).2]):=by
 have k:=ptk_ct g l p q;unfold Nk at k;by_cases h:C2 g l p q=0
 case neg=>
  have e:Ah g l p q=([],C2 g l p q):=by unfold Ah;rw[Tt h]
  rw[e];exact OG (hout:=[]) 1 (k ([],_) (.val (by rw[Aa hrw,Ak (Uh.2 h)])))
 obtain⟨hg,_,⟨h0,h1⟩,⟨h2,h3⟩⟩:=chk_ok hrw h;have hD:=D9 hg (goal:=q.toNat) (by omega);have hdl:=hD.len;have hbd:=hD.bnd p.toNat (by omega);have hgl:=hg.len;have hel:=AR 0 (show p.toNat<(AE g l q.toNat g.length).length by omega);by_cases hn:(AE g l q.toNat g.length).getD p.toNat 0<0
 .have e:Ah g l p q=([],0):=by unfold Ah;rw[Ts h,Ts hn]
  rw[e];exact OG (hout:=[]) 1 (k ([],_) (.val (by rw[Aa hrw,h,Ae (by rfl),Aa hg,Aa ⟨h2,h3⟩,Aa h0,AH hel,Ak (Az hn)])))
 obtain⟨m,hm⟩:∃m:Nat,(AE g l q.toNat g.length).getD p.toNat 0=(m:Int):=⟨((AE g l q.toNat g.length).getD p.toNat 0).toNat,by omega⟩;have e:Ah g l p q=(wkL g (AE g l q.toNat g.length) p.toNat m,0):=by unfold Ah;rw[Ts h,Tt hn,hm,TD]
 have hok:=Il hg (goal:=q.toNat) (by omega) hD (by omega) hm (shN (a:=p.toNat) hD (by omega) (by omega));have hg0:OkG g (Ur g.length false):=⟨hg.len,hg.row,by simp⟩;have hsm:=Pf g l q.toNat g.length (by omega);rw[e];refine k ([_],_) ?_;rw[Aa hrw,h,Ae (by rfl),Aa hg,Aa ⟨h2,h3⟩,Aa h0,AH hel,Ae (An hn),AH hel,hm];have e0:([p]:List Int)=wkL g (AE g l q.toNat g.length) p.toNat 0:=by unfold wkL;show [p]=[wkZ g _ p.toNat 0];rw[wkZ];congr 1;omega
 rw[e0];refine Cu (fun i=>EG.l0 (wkL g (AE g l q.toNat g.length) p.toNat i) (m:Int) (i:Int)) m (fun i hi hx=>?_) ?_
 .refine .to (show GJ g l p q _ _ _=_ from ?_) hx;have hl:=H0 g (AE g l q.toNat g.length) p.toNat i;obtain⟨a1,a2,_⟩:=hok i (by omega);have hw:i64.wrap (iN (wkL g (AE g l q.toNat g.length) p.toNat i).length-1)=(i:Int):=by rw[hl,Cq (by simp only[iN];omega) (by simp only[iN];omega)];simp only[iN];omega
  have hgt:(wkL g (AE g l q.toNat g.length) p.toNat i)[0+i]?=some (wkZ g (AE g l q.toNat g.length) p.toNat i):=by rw[TJ,AR 0 (show i<_ by omega),Gb (TF _)]
  unfold GJ;rw[Ak (Az (by omega)),hw,Aa (by omega),Aa (by simp only[iN];omega),TD,AH hgt,Aa hg0,Aa hdl,Aa hsm,Aa ⟨a1,a2⟩,Aa (by simp only[Tx,Ua,Ub];omega),Aa (by simp only[Tx,Ua,Ub];omega),M2,zW i (by omega)];rfl
 .refine .to (show GJ g l p q _ _ _=_ from ?_) (.ret _);unfold GJ;rw[Ae (An (by omega))]
inductive EC where | l0 (v0:List Bool) (v1:Int)
def FI(n:Ab)(l:List Bool)(d a g:Int)(x:Am)(q:Ac):EC->St | .l0 v0 v1=>St.mk 40 [(1,AV.fn 66 [AV.ptr 0 0 0,AV.ptr 1 0 0,AV.ptr 2 0 0,AV.ptr 3 0 0]),(2,iv a),(3,iv g),(4,AV.ptr 4 0 0),(9,AV.sl 5 0 v0.length),(18,iv (iN (Uq bA n.bs).length)),(19,iv v1)] [some (bK [Uw (boL l)] 1),some (bK [iv d] 1),some (bK [sA x] 6),some (bK [AV.agg [Uw (boL q.cl),Uw (Uq iv q.bw),Uw (Uq iv q.pe)]] 3),some (bK [Af n] 8),some (bK (Uq bV v0) 1)]
def Mg:EC->Nat | .l0 _ _=>0
def MN(n:Ab)(l:List Bool)(d a g:Int)(x:Am)(q:Ac):Option (EC⊕Ret):=gu (1 * iN (Uq bA n.bs).length<=281474976710656) <|gu (iN (Uq bA n.bs).length<=9223372036854775807) <|some (.inl (.l0 (Ur (Uq bA n.bs).length false) ((0:Int))))
def Ha(n:Ab)(l:List Bool)(d a g:Int)(x:Am)(q:Ac)(v0:List Bool)(v1:Int):Option (EC⊕Ret):=br (decide (v1<iN (Uq bA n.bs).length)) (gu (0<=v1/\v1<iN l.length/\v1<iN q.cl.length) <|gu (0<=v1) <|gu (v1<iN v0.length) <|gu ((0+v1.toNat).succ.le (Uq bV v0).length) <|some (.inl (.l0 (v0.set (0+v1.toNat) !(!l.getD v1.toNat true||(v1==d||v1==x.i&&!q.cl.getD v1.toNat true))) (i64.wrap (v1+1))))) (gu (Rows n.nx) <|gu (∀(blk:Blk),blk∈[bK (Uq iV (Ah n.nx v0 a g).fst) 1]->B2 blk) <|some (.inr ([some (bK [Uw (boL l)] 1),some (bK [iV d] 1),some (bK [AV.agg [AV.str x.nm,bV x.dep,iV x.i,iV x.o,iV x.k,iV x.b]] 6),some (bK [AV.agg [Uw (boL q.cl),Uw (Uq iV q.bw),Uw (Uq iV q.pe)]] 3)],Uw (Uq iV (Ah n.nx v0 a g).fst))))
def paAStep(n:Ab)(l:List Bool)(d a g:Int)(x:Am)(q:Ac):EC->Option (EC⊕Ret) | .l0 v0 v1=>Ha n l d a g x q v0 v1
theorem paAEn_ok(n:Ab)(l:List Bool)(d a g:Int)(x:Am)(q:Ac)(o:EC⊕Ret)(h:MN n l d a g x q=some o):Arr Ux Try.f65 4 (FI n l d a g x q) Mg (zB Try.f65) [] {n:=Try.f65.ntmps,fr:=AI 0 ([Af n,.fn 66 [.ptr 0 0 0,.ptr 1 0 0,.ptr 2 0 0,.ptr 3 0 0],.int .i64 a,.int .i64 g]),hp:=([some (bK [.lst (boL l)] 1),some (bK [.int .i64 d] 1),some (bK [sA x] 6),some (bK [sgA q] 3)])} o:=Scr.ok h mix (.rn 0 [] [] [] [] (al (u2 t2)) <|.gu fun a0=>.gu fun a1=>.lq [] [] [] [] [] [0,1,2,3,4,5] [1,2,3,4,9,18,19] (up [(9,AV.sl 5 0 (Uq bA n.bs).length)] [(5,Ur (Uq bA n.bs).length (bV false))] (FI n l d a g x q (.l0 (Ur (Uq bA n.bs).length false) ((0:Int))))) (aj (aj (u2 (u2 (u2 (aj (k2 (aj (show 0<=iN (Uq bA n.bs).length from(Int.natCast_nonneg _)) (aj (show iN (Uq bA n.bs).length<=iN (Uq bA n.bs).length by omega) (aj a0 a1)))) s2)))) (al (u2 (u2 t2)))) (aj t5 (ak (k3 t9)))) (by simp[up,upF,upV,upH,upB,FI,gL,boL,lI,sA,bA])) (by kernel_rfl)
theorem paAS0_ok(n:Ab)(l:List Bool)(d a g:Int)(x:Am)(q:Ac)(v0:List Bool)(v1:Int)(o:EC⊕Ret)(h:Ha n l d a g x q v0 v1=some o):Arr Ux Try.f65 4 (FI n l d a g x q) Mg (Av Try.f65 0) (.rnd (Av Try.f65 0)::AK Try.f65 0) (FI n l d a g x q (.l0 v0 v1)) o:=Scr.ok h mix (.rn 0 [] [] [] [] (al (al t3)) <|.br (fun a0=>.rn 0 [41] [] [] [] (aj a0 (al (u2 s2))) <|.gu fun a1=>.gu fun a2=>.gu fun a3=>.gu fun a4=>have c0:=lg1_c l d v1 x q a1;.lq [] [] [(26,hK c0 [0,1,2,3] [])] [] [] [0,1,2,3,4,5] [1,2,3,4,9,18,19] (up [(9,AV.sl 5 0 v0.length)] [(5,(Uq bV v0).set (0+v1.toNat) (bV !(!l.getD v1.toNat true||(v1==d||v1==x.i&&!q.cl.getD v1.toNat true))))] (FI n l d a g x q (.l0 (v0.set (0+v1.toNat) !(!l.getD v1.toNat true||(v1==d||v1==x.i&&!q.cl.getD v1.toNat true))) (i64.wrap (v1+1))))) (aj (aj (u2 (u2 (u2 (u2 (aj (ak (k5 (k5 (al (c0))))) (u2 (aj (k2 (aj a2 a3)) (al (k2 a4))))))))) (al (u2 s2))) (aj t5 (ak (k3 t9)))) (by simp[up,upF,upV,upH,upB,FI,gL,boL,lI,sA,bA])) (fun a0=>.gu fun a1=>.gu fun a2=>have c0:=pthK v0 a g a1;.rt [40] [] [(36,hK c0 [] [5])] [] [0,1,2,3] [6] (aj (aj a0 (aj (u2 (u2 (u2 (u2 (u2 (aj (k5 (aj (show v0.length=(Uq bV v0).length by simp) (k2 (aj (c0) a2)))) (u2 (u2 (u2 (u2 s2)))))))))) (al (u2 s2)))) (aj (show(Ah n.nx v0 a g).fst.length=(Uq iv (Ah n.nx v0 a g).fst).length by simp) t5)))) (by kernel_rfl)
theorem paA_ct(n:Ab)(l:List Bool)(d a g:Int)(x:Am)(q:Ac)(r:Ret)(h:Aq (paAStep n l d a g x q) (MN n l d a g x q) r):CT Ux 65 ([some (bK [.lst (boL l)] 1),some (bK [.int .i64 d] 1),some (bK [sA x] 6),some (bK [sgA q] 3)]) ([Af n,.fn 66 [.ptr 0 0 0,.ptr 1 0 0,.ptr 2 0 0,.ptr 3 0 0],.int .i64 a,.int .i64 g]) r.1 r.2:=
 CT.mach (fn:=Try.f65) (c:=zB Try.f65) (S:=FI n l d a g x q) (hd:=Mg) Try.func65 (by kernel_rfl) (nL rfl)
  (fun s o ho=>match s,ho with
   | .l0 v0 v1,ho=>paAS0_ok n l d a g x q v0 v1 o ho
  )
  (fun o ho=>paAEn_ok n l d a g x q o ho) h
inductive Ew where | l0 (v0:List Bool) (v1:Int)
def FJ(n:Ab)(d a g:Int)(q:Ac):Ew->St | .l0 v0 v1=>St.mk 40 [(1,AV.fn 67 [AV.ptr 0 0 0,AV.ptr 1 0 0]),(2,iv a),(3,iv g),(4,AV.ptr 2 0 0),(9,AV.sl 3 0 v0.length),(18,iv (iN (Uq bA n.bs).length)),(19,iv v1)] [some (bK [AV.agg [Uw (boL q.cl),Uw (Uq iv q.bw),Uw (Uq iv q.pe)]] 3),some (bK [iv d] 1),some (bK [Af n] 8),some (bK (Uq bV v0) 1)]
def Lr:Ew->Nat | .l0 _ _=>0
def MA(n:Ab)(d a g:Int)(q:Ac):Option (Ew⊕Ret):=gu (1 * iN (Uq bA n.bs).length<=281474976710656) <|gu (iN (Uq bA n.bs).length<=9223372036854775807) <|some (.inl (.l0 (Ur (Uq bA n.bs).length false) ((0:Int))))
def GM(n:Ab)(d a g:Int)(q:Ac)(v0:List Bool)(v1:Int):Option (Ew⊕Ret):=br (decide (v1<iN (Uq bA n.bs).length)) (gu (0<=v1/\v1<iN q.cl.length) <|gu (0<=v1) <|gu (v1<iN v0.length) <|gu ((0+v1.toNat).succ.le (Uq bV v0).length) <|some (.inl (.l0 (v0.set (0+v1.toNat) !(!q.cl.getD v1.toNat true||v1==d)) (i64.wrap (v1+1))))) (gu (Rows n.nx) <|gu (∀(blk:Blk),blk∈[bK (Uq iV (Ah n.nx v0 a g).fst) 1]->B2 blk) <|some (.inr ([some (bK [AV.agg [Uw (boL q.cl),Uw (Uq iV q.bw),Uw (Uq iV q.pe)]] 3),some (bK [iV d] 1)],Uw (Uq iV (Ah n.nx v0 a g).fst))))
def paBStep(n:Ab)(d a g:Int)(q:Ac):Ew->Option (Ew⊕Ret) | .l0 v0 v1=>GM n d a g q v0 v1
theorem paBEn_ok(n:Ab)(d a g:Int)(q:Ac)(o:Ew⊕Ret)(h:MA n d a g q=some o):Arr Ux Try.f65 2 (FJ n d a g q) Lr (zB Try.f65) [] {n:=Try.f65.ntmps,fr:=AI 0 ([Af n,.fn 67 [.ptr 0 0 0,.ptr 1 0 0],.int .i64 a,.int .i64 g]),hp:=([some (bK [sgA q] 3),some (bK [.int .i64 d] 1)])} o:=Scr.ok h mix (.rn 0 [] [] [] [] (al (u2 t2)) <|.gu fun a0=>.gu fun a1=>.lq [] [] [] [] [] [0,1,2,3] [1,2,3,4,9,18,19] (up [(9,AV.sl 3 0 (Uq bA n.bs).length)] [(3,Ur (Uq bA n.bs).length (bV false))] (FJ n d a g q (.l0 (Ur (Uq bA n.bs).length false) ((0:Int))))) (aj (aj (u2 (u2 (u2 (aj (k2 (aj (show 0<=iN (Uq bA n.bs).length from(Int.natCast_nonneg _)) (aj (show iN (Uq bA n.bs).length<=iN (Uq bA n.bs).length by omega) (aj a0 a1)))) s2)))) (al (u2 (u2 t2)))) (aj t3 (k2 t9))) (by simp[up,upF,upV,upH,upB,FJ,gL,boL,lI,sA,bA])) (by kernel_rfl)
theorem paBS0_ok(n:Ab)(d a g:Int)(q:Ac)(v0:List Bool)(v1:Int)(o:Ew⊕Ret)(h:GM n d a g q v0 v1=some o):Arr Ux Try.f65 2 (FJ n d a g q) Lr (Av Try.f65 0) (.rnd (Av Try.f65 0)::AK Try.f65 0) (FJ n d a g q (.l0 v0 v1)) o:=Scr.ok h mix (.rn 0 [] [] [] [] (al (al t3)) <|.br (fun a0=>.rn 0 [41] [] [] [] (aj a0 (al (u2 s2))) <|.gu fun a1=>.gu fun a2=>.gu fun a3=>.gu fun a4=>have c0:=lg2_c d v1 q a1;.lq [] [] [(26,hK c0 [0,1] [])] [] [] [0,1,2,3] [1,2,3,4,9,18,19] (up [(9,AV.sl 3 0 v0.length)] [(3,(Uq bV v0).set (0+v1.toNat) (bV !(!q.cl.getD v1.toNat true||v1==d)))] (FJ n d a g q (.l0 (v0.set (0+v1.toNat) !(!q.cl.getD v1.toNat true||v1==d)) (i64.wrap (v1+1))))) (aj (aj (u2 (u2 (u2 (u2 (aj (k2 (k5 (al (c0)))) (u2 (aj (k2 (aj a2 a3)) (al (k2 a4))))))))) (al (u2 s2))) (aj t3 (k2 t9))) (by simp[up,upF,upV,upH,upB,FJ,gL,boL,lI,sA,bA])) (fun a0=>.gu fun a1=>.gu fun a2=>have c0:=pthK v0 a g a1;.rt [40] [] [(36,hK c0 [] [3])] [] [0,1] [4] (aj (aj a0 (aj (u2 (u2 (u2 (u2 (u2 (aj (k5 (aj (show v0.length=(Uq bV v0).length by simp) (k2 (aj (c0) a2)))) (u2 (u2 (u2 (u2 s2)))))))))) (al (u2 s2)))) (aj (show(Ah n.nx v0 a g).fst.length=(Uq iv (Ah n.nx v0 a g).fst).length by simp) t3)))) (by kernel_rfl)
theorem paB_ct(n:Ab)(d a g:Int)(q:Ac)(r:Ret)(h:Aq (paBStep n d a g q) (MA n d a g q) r):CT Ux 65 ([some (bK [sgA q] 3),some (bK [.int .i64 d] 1)]) ([Af n,.fn 67 [.ptr 0 0 0,.ptr 1 0 0],.int .i64 a,.int .i64 g]) r.1 r.2:=
 CT.mach (fn:=Try.f65) (c:=zB Try.f65) (S:=FJ n d a g q) (hd:=Lr) Try.func65 (by kernel_rfl) (nL rfl)
  (fun s o ho=>match s,ho with
   | .l0 v0 v1,ho=>paBS0_ok n d a g q v0 v1 o ho
  )
  (fun o ho=>paBEn_ok n d a g q o ho) h
inductive Ey where | l0 (v0:List Bool) (v1:Int)
def Fv(n:Ab)(l:List Bool)(d a g:Int)(x:Am)(q:Ac):Ey->St | .l0 v0 v1=>St.mk 40 [(1,AV.fn 90 [AV.ptr 0 0 0,AV.ptr 1 0 0,AV.ptr 2 0 0,AV.ptr 3 0 0]),(2,iv a),(3,iv g),(4,AV.ptr 4 0 0),(9,AV.sl 5 0 v0.length),(18,iv (iN (Uq bA n.bs).length)),(19,iv v1)] [some (bK [iv d] 1),some (bK [Uw (boL l)] 1),some (bK [sA x] 6),some (bK [AV.agg [Uw (boL q.cl),Uw (Uq iv q.bw),Uw (Uq iv q.pe)]] 3),some (bK [Af n] 8),some (bK (Uq bV v0) 1)]
def LK:Ey->Nat | .l0 _ _=>0
def Mi(n:Ab)(l:List Bool)(d a g:Int)(x:Am)(q:Ac):Option (Ey⊕Ret):=gu (1 * iN (Uq bA n.bs).length<=281474976710656) <|gu (iN (Uq bA n.bs).length<=9223372036854775807) <|some (.inl (.l0 (Ur (Uq bA n.bs).length false) ((0:Int))))
def GP(n:Ab)(l:List Bool)(d a g:Int)(x:Am)(q:Ac)(v0:List Bool)(v1:Int):Option (Ey⊕Ret):=br (decide (v1<iN (Uq bA n.bs).length)) (gu (0<=v1/\v1<iN l.length/\v1<iN q.cl.length) <|gu (0<=v1) <|gu (v1<iN v0.length) <|gu ((0+v1.toNat).succ.le (Uq bV v0).length) <|some (.inl (.l0 (v0.set (0+v1.toNat) !(!v1==d&&(!l.getD v1.toNat true||v1==x.i&&!q.cl.getD v1.toNat true))) (i64.wrap (v1+1))))) (gu (Rows n.nx) <|gu (∀(blk:Blk),blk∈[bK (Uq iV (Ah n.nx v0 a g).fst) 1]->B2 blk) <|some (.inr ([some (bK [iV d] 1),some (bK [Uw (boL l)] 1),some (bK [AV.agg [AV.str x.nm,bV x.dep,iV x.i,iV x.o,iV x.k,iV x.b]] 6),some (bK [AV.agg [Uw (boL q.cl),Uw (Uq iV q.bw),Uw (Uq iV q.pe)]] 3)],Uw (Uq iV (Ah n.nx v0 a g).fst))))
def paDStep(n:Ab)(l:List Bool)(d a g:Int)(x:Am)(q:Ac):Ey->Option (Ey⊕Ret) | .l0 v0 v1=>GP n l d a g x q v0 v1
theorem paDEn_ok(n:Ab)(l:List Bool)(d a g:Int)(x:Am)(q:Ac)(o:Ey⊕Ret)(h:Mi n l d a g x q=some o):Arr Ux Try.f65 4 (Fv n l d a g x q) LK (zB Try.f65) [] {n:=Try.f65.ntmps,fr:=AI 0 ([Af n,.fn 90 [.ptr 0 0 0,.ptr 1 0 0,.ptr 2 0 0,.ptr 3 0 0],.int .i64 a,.int .i64 g]),hp:=([some (bK [.int .i64 d] 1),some (bK [.lst (boL l)] 1),some (bK [sA x] 6),some (bK [sgA q] 3)])} o:=Scr.ok h mix (.rn 0 [] [] [] [] (al (u2 t2)) <|.gu fun a0=>.gu fun a1=>.lq [] [] [] [] [] [0,1,2,3,4,5] [1,2,3,4,9,18,19] (up [(9,AV.sl 5 0 (Uq bA n.bs).length)] [(5,Ur (Uq bA n.bs).length (bV false))] (Fv n l d a g x q (.l0 (Ur (Uq bA n.bs).length false) ((0:Int))))) (aj (aj (u2 (u2 (u2 (aj (k2 (aj (show 0<=iN (Uq bA n.bs).length from(Int.natCast_nonneg _)) (aj (show iN (Uq bA n.bs).length<=iN (Uq bA n.bs).length by omega) (aj a0 a1)))) s2)))) (al (u2 (u2 t2)))) (aj t5 (ak (k3 t9)))) (by simp[up,upF,upV,upH,upB,Fv,gL,boL,lI,sA,bA])) (by kernel_rfl)
theorem paDS0_ok(n:Ab)(l:List Bool)(d a g:Int)(x:Am)(q:Ac)(v0:List Bool)(v1:Int)(o:Ey⊕Ret)(h:GP n l d a g x q v0 v1=some o):Arr Ux Try.f65 4 (Fv n l d a g x q) LK (Av Try.f65 0) (.rnd (Av Try.f65 0)::AK Try.f65 0) (Fv n l d a g x q (.l0 v0 v1)) o:=Scr.ok h mix (.rn 0 [] [] [] [] (al (al t3)) <|.br (fun a0=>.rn 0 [41] [] [] [] (aj a0 (al (u2 s2))) <|.gu fun a1=>.gu fun a2=>.gu fun a3=>.gu fun a4=>have c0:=dt2_c l d v1 x q a1;.lq [] [] [(26,hK c0 [0,1,2,3] [])] [] [] [0,1,2,3,4,5] [1,2,3,4,9,18,19] (up [(9,AV.sl 5 0 v0.length)] [(5,(Uq bV v0).set (0+v1.toNat) (bV !(!v1==d&&(!l.getD v1.toNat true||v1==x.i&&!q.cl.getD v1.toNat true))))] (Fv n l d a g x q (.l0 (v0.set (0+v1.toNat) !(!v1==d&&(!l.getD v1.toNat true||v1==x.i&&!q.cl.getD v1.toNat true))) (i64.wrap (v1+1))))) (aj (aj (u2 (u2 (u2 (u2 (aj (ak (k5 (k5 (al (c0))))) (u2 (aj (k2 (aj a2 a3)) (al (k2 a4))))))))) (al (u2 s2))) (aj t5 (ak (k3 t9)))) (by simp[up,upF,upV,upH,upB,Fv,gL,boL,lI,sA,bA])) (fun a0=>.gu fun a1=>.gu fun a2=>have c0:=pthK v0 a g a1;.rt [40] [] [(36,hK c0 [] [5])] [] [0,1,2,3] [6] (aj (aj a0 (aj (u2 (u2 (u2 (u2 (u2 (aj (k5 (aj (show v0.length=(Uq bV v0).length by simp) (k2 (aj (c0) a2)))) (u2 (u2 (u2 (u2 s2)))))))))) (al (u2 s2)))) (aj (show(Ah n.nx v0 a g).fst.length=(Uq iv (Ah n.nx v0 a g).fst).length by simp) t5)))) (by kernel_rfl)
theorem paD_ct(n:Ab)(l:List Bool)(d a g:Int)(x:Am)(q:Ac)(r:Ret)(h:Aq (paDStep n l d a g x q) (Mi n l d a g x q) r):CT Ux 65 ([some (bK [.int .i64 d] 1),some (bK [.lst (boL l)] 1),some (bK [sA x] 6),some (bK [sgA q] 3)]) ([Af n,.fn 90 [.ptr 0 0 0,.ptr 1 0 0,.ptr 2 0 0,.ptr 3 0 0],.int .i64 a,.int .i64 g]) r.1 r.2:=
 CT.mach (fn:=Try.f65) (c:=zB Try.f65) (S:=Fv n l d a g x q) (hd:=LK) Try.func65 (by kernel_rfl) (nL rfl)
  (fun s o ho=>match s,ho with
   | .l0 v0 v1,ho=>paDS0_ok n l d a g x q v0 v1 o ho
  )
  (fun o ho=>paDEn_ok n l d a g x q o ho) h
def bmV(f:Nat->Bool)(c i:Nat):List Bool:=(Uu i).map f++Ur (c-i) false
theorem Mt{f:Nat->Bool}{c i:Nat}(h:i<=c):(bmV f c i).length=c:=by unfold bmV;simp;omega
theorem NC{f:Nat->Bool}{c i:Nat}(h:i<c):(bmV f c i).set (0+i) (f i)=bmV f c (i+1):=by
 obtain⟨d,hd⟩:∃d,c-i=d+1:=⟨c-i-1,by omega⟩;have hd2:c-(i+1)=d:=by omega
 unfold bmV;rw[hd,hd2,TJ,List.replicate_succ,List.set_append_right _ _ (by simp)];simp only[Tx,Ud,Td,List.set_cons_zero];rw[Ui,TH,List.append_assoc];rfl
theorem Nh(f:Nat->Bool)(c:Nat):bmV f c 0=Ur c false:=by unfold bmV;simp
theorem K1(f:Nat->Bool)(c:Nat):bmV f c c=(Uu c).map f:=by unfold bmV;simp
def shG(nb:Nat)(l cl:List Bool)(d goal:Int):List Bool:=(Uu nb).map fun b:Nat=> !(!(l.getD b true)||((b:Int)==d||((b:Int)==goal&&!(cl.getD b true))))
def shW(nb:Nat)(cl:List Bool)(d:Int):List Bool:=(Uu nb).map fun b:Nat=> !(!(cl.getD b true)||(b:Int)==d)
def shV(nb:Nat)(l cl:List Bool)(d goal:Int):List Bool:=(Uu nb).map fun b:Nat=> !(!((b:Int)==d)&&(!(l.getD b true)||((b:Int)==goal&&!(cl.getD b true))))
theorem IU(l:List Int):∀(blk:Blk),blk∈[Blk.mk (Uq (AV.int .i64) l) 1 true true none]->B2 blk:=fun blk hb=>by rw[Tj.1 hb];intro e he c hc;obtain⟨x,_,rfl⟩:=T1.1 he;rw[Tj.1 hc];rfl
theorem paA_c(n:Ab)(l:List Bool)(d a g:Int)(x:Am)(q:Ac)(hrw:Rows n.nx)(hn:n.bs.length<=1000/\n.bs.length<=l.length/\n.bs.length<=q.cl.length):
  CT Ux 65 [some (Blk.mk [.lst (boL l)] 1 true true none),some (Blk.mk [.int .i64 d] 1 true true none),some (Blk.mk [sA x] 6 true true none),some (Blk.mk [sgA q] 3 true true none)] [Af n,.fn 66 [.ptr 0 0 0,.ptr 1 0 0,.ptr 2 0 0,.ptr 3 0 0],.int .i64 a,.int .i64 g] [some (Blk.mk [.lst (boL l)] 1 true true none),some (Blk.mk [.int .i64 d] 1 true true none),some (Blk.mk [sA x] 6 true true none),some (Blk.mk [sgA q] 3 true true none)] (lI (Ah n.nx (shG n.bs.length l q.cl d x.i) a g).1):=by
 refine paA_ct n l d a g x q ([_,_,_,_],_) ?_;obtain⟨n1,n2,n3⟩:=hn;unfold MN;have hb:(Uq bA n.bs).length=n.bs.length:=Tx ..;rw[hb,Aa (by simp only[iN];omega),Aa (by simp only[iN];omega)];rw[<-Nh (fun b:Nat=> !(!(l.getD b true)||((b:Int)==d||((b:Int)==x.i&&!(q.cl.getD b true)))))];refine Cu (fun i=>EC.l0 (bmV (fun b:Nat=> !(!(l.getD b true)||((b:Int)==d||((b:Int)==x.i&&!(q.cl.getD b true))))) n.bs.length i) (i:Int)) n.bs.length (fun i hi hx=>?_) ?_
 .refine .to (show Ha n l d a g x q _ _=_ from ?_) hx;unfold Ha;have hl:=Mt (f:=fun b:Nat=> !(!(l.getD b true)||((b:Int)==d||((b:Int)==x.i&&!(q.cl.getD b true))))) (Nat.le_of_lt hi);rw[hb,Ak (Az (by simp only[iN];omega)),Aa (by simp only[iN];omega),Aa (by omega),Aa (by simp only[iN,hl];omega),Aa (show Nat.le _ _ from(by rw[Tx,hl];show 0+(i:Int).toNat+1<=_;omega)),TD,NC (f:=fun b:Nat=> !(!(l.getD b true)||((b:Int)==d||((b:Int)==x.i&&!(q.cl.getD b true))))) hi,zW i (by omega)]
 .refine .to (show Ha n l d a g x q _ _=_ from ?_) (.ret _);unfold Ha;rw[hb,Ae (An (by simp only[iN];omega)),Aa hrw,Aa (IU _),K1];rfl
theorem paB_c(n:Ab)(d a g:Int)(q:Ac)(hrw:Rows n.nx)(hn:n.bs.length<=1000/\n.bs.length<=q.cl.length):
  CT Ux 65 [some (Blk.mk [sgA q] 3 true true none),some (Blk.mk [.int .i64 d] 1 true true none)] [Af n,.fn 67 [.ptr 0 0 0,.ptr 1 0 0],.int .i64 a,.int .i64 g] [some (Blk.mk [sgA q] 3 true true none),some (Blk.mk [.int .i64 d] 1 true true none)] (lI (Ah n.nx (shW n.bs.length q.cl d) a g).1):=by
 refine paB_ct n d a g q ([_,_],_) ?_;obtain⟨n1,n3⟩:=hn;unfold MA;have hb:(Uq bA n.bs).length=n.bs.length:=Tx ..;rw[hb,Aa (by simp only[iN];omega),Aa (by simp only[iN];omega)];rw[<-Nh (fun b:Nat=> !(!(q.cl.getD b true)||(b:Int)==d))];refine Cu (fun i=>Ew.l0 (bmV (fun b:Nat=> !(!(q.cl.getD b true)||(b:Int)==d)) n.bs.length i) (i:Int)) n.bs.length (fun i hi hx=>?_) ?_
 .refine .to (show GM n d a g q _ _=_ from ?_) hx;unfold GM;have hl:=Mt (f:=fun b:Nat=> !(!(q.cl.getD b true)||(b:Int)==d)) (Nat.le_of_lt hi);rw[hb,Ak (Az (by simp only[iN];omega)),Aa (by simp only[iN];omega),Aa (by omega),Aa (by simp only[iN,hl];omega),Aa (show Nat.le _ _ from(by rw[Tx,hl];show 0+(i:Int).toNat+1<=_;omega)),TD,NC (f:=fun b:Nat=> !(!(q.cl.getD b true)||(b:Int)==d)) hi,zW i (by omega)]
 .refine .to (show GM n d a g q _ _=_ from ?_) (.ret _);unfold GM;rw[hb,Ae (An (by simp only[iN];omega)),Aa hrw,Aa (IU _),K1];rfl
theorem paD_c(n:Ab)(l:List Bool)(d a g:Int)(x:Am)(q:Ac)(hrw:Rows n.nx)(hn:n.bs.length<=1000/\n.bs.length<=l.length/\n.bs.length<=q.cl.length):
  CT Ux 65 [some (Blk.mk [.int .i64 d] 1 true true none),some (Blk.mk [.lst (boL l)] 1 true true none),some (Blk.mk [sA x] 6 true true none),some (Blk.mk [sgA q] 3 true true none)] [Af n,.fn 90 [.ptr 0 0 0,.ptr 1 0 0,.ptr 2 0 0,.ptr 3 0 0],.int .i64 a,.int .i64 g] [some (Blk.mk [.int .i64 d] 1 true true none),some (Blk.mk [.lst (boL l)] 1 true true none),some (Blk.mk [sA x] 6 true true none),some (Blk.mk [sgA q] 3 true true none)] (lI (Ah n.nx (shV n.bs.length l q.cl d x.i) a g).1):=by
 refine paD_ct n l d a g x q ([_,_,_,_],_) ?_;obtain⟨n1,n2,n3⟩:=hn;unfold Mi;have hb:(Uq bA n.bs).length=n.bs.length:=Tx ..;rw[hb,Aa (by simp only[iN];omega),Aa (by simp only[iN];omega)];rw[<-Nh (fun b:Nat=> !(!((b:Int)==d)&&(!(l.getD b true)||((b:Int)==x.i&&!(q.cl.getD b true)))))];refine Cu (fun i=>Ey.l0 (bmV (fun b:Nat=> !(!((b:Int)==d)&&(!(l.getD b true)||((b:Int)==x.i&&!(q.cl.getD b true))))) n.bs.length i) (i:Int)) n.bs.length (fun i hi hx=>?_) ?_
 .refine .to (show GP n l d a g x q _ _=_ from ?_) hx;unfold GP;have hl:=Mt (f:=fun b:Nat=> !(!((b:Int)==d)&&(!(l.getD b true)||((b:Int)==x.i&&!(q.cl.getD b true))))) (Nat.le_of_lt hi);rw[hb,Ak (Az (by simp only[iN];omega)),Aa (by simp only[iN];omega),Aa (by omega),Aa (by simp only[iN,hl];omega),Aa (show Nat.le _ _ from(by rw[Tx,hl];show 0+(i:Int).toNat+1<=_;omega)),TD,NC (f:=fun b:Nat=> !(!((b:Int)==d)&&(!(l.getD b true)||((b:Int)==x.i&&!(q.cl.getD b true))))) hi,zW i (by omega)]
 .refine .to (show GP n l d a g x q _ _=_ from ?_) (.ret _);unfold GP;rw[hb,Ae (An (by simp only[iN];omega)),Aa hrw,Aa (IU _),K1];rfl
def grwSt(z:Int):Empty->St | x=>x.elim
def grwHd:Empty->Nat | x=>x.elim
def JJ(z:Int):Option (Empty⊕Ret):=br (decide (z<0)) (none) (br (decide (0<i64.wrap (z-0))) (gu (0<i64.wrap (z-0)) <|gu (i64.wrap (z-0)<=9223372036854775807) <|gu ((i64.wrap (z-0)).toNat * 8<=140737488355328) <|some (.inr ([some (bK (Ur (i64.wrap (z-0)).toNat (iV 0)) 1)],AV.sl 0 0 0))) (some (.inr ([],AV.nils))))
def grwStep(z:Int):Empty->Option (Empty⊕Ret) | x=>x.elim
theorem grwEn_ok(z:Int)(o:Empty⊕Ret)(h:JJ z=some o):Arr Ux Try.f112 0 (grwSt z) grwHd (zB Try.f112) [] {n:=Try.f112.ntmps,fr:=AI 0 ([.nils,.int .i64 z]),hp:=([])} o:=Scr.ok h mix (.rn 1 [] [] [] [] (u2 (al (u2 s2))) <|.br (fun a0=>.no) (fun a0=>.rn 1 [12] [] [] [] (aj a0 (aj (u2 (u2 (u2 (u2 (u2 (aj t3 (aj t3 s2))))))) (al (u2 s2)))) <|.br (fun a1=>.gu fun a2=>.gu fun a3=>.gu fun a4=>.rt [33] [] [] [] [0] [] (aj (aj a1 (aj (u2 (u2 (u2 (aj t3 (u2 (aj (k2 (aj a2 (aj a3 a4))) (u2 (u2 (aj (k2 (aj (Int.le_refl 0) (aj (Int.le_refl 0) (aj (show 0<=iN (i64.wrap (z-0)).toNat from(Int.natCast_nonneg _)) (show iN (i64.wrap (z-0)).toNat<=iN (i64.wrap (z-0)).toNat by omega))))) s2))))))))) (al (u2 s2)))) t3)) (fun a1=>.rt [32] [] [] [] [] [] (aj (aj a1 (al (u2 s2))) t2)))) (by kernel_rfl)
theorem Ow(z:Int)(r:Ret)(h:Aq (grwStep z) (JJ z) r):CT Ux 112 ([]) ([.nils,.int .i64 z]) r.1 r.2:=
 CT.mach (fn:=Try.f112) (c:=zB Try.f112) (S:=grwSt z) (hd:=grwHd) Try.func112 (by kernel_rfl) (nL rfl)
  (fun s o ho=>match s,ho with
   | x,_=>x.elim)
  (fun o ho=>grwEn_ok z o ho) h
inductive Dy where | l0 (v0:Int) (v1:List Int)
def HA(x:Am)(k:Int):Dy->St | .l0 v0 v1=>St.mk 20 [(1,iv v0),(2,AV.ptr 0 0 0),(5,AV.sl 1 0 v1.length)] [some (bK [sA x] 6),some (bK (Uq iv v1) 1)]
def NA:Dy->Nat | .l0 _ _=>0
def Ng(x:Am)(k:Int):Option (Dy⊕Ret):=some (.inl (.l0 k ([])))
def Gt(x:Am)(k v0:Int)(v1:List Int):Option (Dy⊕Ret):=br (decide (v0<x.k)) (gu ((Uq iV v1).length+[iV (i64.wrap (x.b+v0))].length<=9223372036854775807) <|gu (((Uq iV v1).length+[iV (i64.wrap (x.b+v0))].length) * 8<=140737488355328) <|some (.inl (.l0 (i64.wrap (v0+1)) (v1++[i64.wrap (x.b+v0)])))) (some (.inr ([some (bK (Uq iV v1) 1)],AV.sl 0 0 v1.length)))
def slkStep(x:Am)(k:Int):Dy->Option (Dy⊕Ret) | .l0 v0 v1=>Gt x k v0 v1
theorem slkEn_ok(x:Am)(k:Int)(o:Dy⊕Ret)(h:Ng x k=some o):Arr Ux Try.f63 0 (HA x k) NA (zB Try.f63) [] {n:=Try.f63.ntmps,fr:=AI 0 ([sA x,.int .i64 k]),hp:=([])} o:=Scr.ok h mix (.lp [] [] [] [] [(5,1)] [0,1] [1,2,5] (aj (ag t2 s2) t6)) (by kernel_rfl)
theorem slkS0_ok(x:Am)(k v0:Int)(v1:List Int)(o:Dy⊕Ret)(h:Gt x k v0 v1=some o):Arr Ux Try.f63 0 (HA x k) NA (Av Try.f63 0) (.rnd (Av Try.f63 0)::AK Try.f63 0) (HA x k (.l0 v0 v1)) o:=Scr.ok h mix (.rn 0 [] [] [] [] (al (u2 (u2 (u2 (al t3))))) <|.br (fun a0=>.gu fun a1=>.gu fun a2=>.lq [19] [] [] [] [] [0,3] [1,2,5] (up [(5,AV.sl 1 0 ((Uq iv v1).length+[iv (i64.wrap (x.b+v0))].length))] [(1,Uq iv v1++[iv (i64.wrap (x.b+v0))])] (HA x k (.l0 (i64.wrap (v0+1)) (v1++[i64.wrap (x.b+v0)])))) (aj (aj a0 (aj (u2 (u2 (u2 (u2 (aj t3 (u2 (aj (k2 (aj (show(Uq iv v1).length=v1.length by simp) (aj (aj (show nat_lit 1=nat_lit 1 from rfl) (show 1<=[iv (i64.wrap (x.b+v0))].length by simp)) (aj a1 a2)))) s2))))))) (al (u2 (u2 s2))))) t6) (by simp[up,upF,upV,upH,upB,HA,gL,boL,lI,sA])) (fun a0=>.rt [18] [] [] [] [1] [] (aj (aj a0 (al (u2 s2))) t3))) (by kernel_rfl)
theorem slk_ct(x:Am)(k:Int)(r:Ret)(h:Aq (slkStep x k) (Ng x k) r):CT Ux 63 ([]) ([sA x,.int .i64 k]) r.1 r.2:=
 CT.mach (fn:=Try.f63) (c:=zB Try.f63) (S:=HA x k) (hd:=NA) Try.func63 (by kernel_rfl) (nL rfl)
  (fun s o ho=>match s,ho with
   | .l0 v0 v1,ho=>slkS0_ok x k v0 v1 o ho
  )
  (fun o ho=>slkEn_ok x k o ho) h
theorem CT.virt{f:FuncId}{hin hout:List (Option Blk)}{args:List AV}(z:Nat)(h:CT Ux f hin args hout .nils):CT Ux f hin args (hout++[some (Blk.mk [] z true true none)]) (.sl hout.length 0 0):=by
 intro φ A w vs h1 h2 h3 h4 h5;refine(h φ A w vs h1 h2 h3 h4 h5).mono fun e w' ⟨v,φ',he,C⟩=>⟨v,φ',he,?_⟩
 have hnone:φ' hout.length=none:=C.out _ (TF _);have hmut:∀r,Mut φ' (nth (hout++[some (Blk.mk [] z true true none)])) r->Mut φ' (nth hout) r:=by
  rintro r ⟨b,blk',z',g1,g2,g3⟩
  rcases Fa g1 with g | ⟨rfl,rfl⟩
  .exact⟨b,blk',z',g,g2,g3⟩
  .rw[hnone] at g3;cases g3
 have hok:∀r,Ok A w.heap.size φ' (nth hout) w' r->Ok A w.heap.size φ' (nth (hout++[some (Blk.mk [] z true true none)])) w' r:=fun r ⟨g1,g2,g3⟩=>⟨g1,g2,fun h=>g3 (hmut r h)⟩
 have brm:∀{b:Nat} {blk:Blk},BR φ' (Ok A w.heap.size φ' (nth hout) w') w' b blk->BR φ' (Ok A w.heap.size φ' (nth (hout++[some (Blk.mk [] z true true none)])) w') w' b blk:=by
  rintro b blk (h1 | ⟨r,cs,T,h1,h2,h3,h5⟩ | h1)
  .exact .inl h1
  .refine .inr (.inl ⟨r,cs,T,h1,h2,h3,fun i e he=>⟨(h5 i e he).1,fun j c hc=>?_⟩⟩);obtain⟨g3,v,g4,g5⟩:=(h5 i e he).2 j c hc;exact⟨g3,v,g4,g5.mono (fun _ _ h=>h) hok (fun _ _=>rfl) (fun _=>TF _)⟩
  .exact .inr (.inr h1)
 have hlen:(hout++[some (Blk.mk [] z true true none)]).length=hout.length+1:=by simp
 have hs:∀b r z',(nth (hout++[some (Blk.mk [] z true true none)]) b).isSome=true->φ' b=some (r,z')->(nth hout b).isSome=true:=by
  intro b r z' g1 g2;obtain⟨blk',g⟩:=Option.isSome_iff_exists.1 g1;rcases Fa g with g | ⟨rfl,_⟩
  .rw[g];rfl
  .rw[hnone] at g2;cases g2
 refine⟨C.par,C.keep,fun r hr=>C.mutd r (hmut r hr),⟨fun b blk' hb'=>?_,fun b blk' hb' hf=>?_,fun b b' r z1 z2 g1 g2 g3 g4=>C.heap.inj b b' r z1 z2 (hs b r z1 g1 g3) (hs b' r z2 g2 g4) g3 g4⟩,?_,fun b hb'=>C.out b (by rw[hlen] at hb';omega),by have:=C.len;rw[hlen];omega,C.own⟩
 .rcases Fa hb' with g | ⟨rfl,rfl⟩
  .exact brm (C.heap.blk b blk' g)
  .exact .inl ⟨rfl,hnone,rfl,rfl⟩
 .rcases Fa hb' with g | ⟨rfl,rfl⟩
  .exact C.heap.flat b blk' g hf
  .intro e he;cases he
 .have:=C.val;rw[this.nils_inv];exact .slnil _ 0 none
theorem Ca.nought{es:List AV}{z:Nat}{fl:Bool}:Ca (Blk.mk es z fl true none) (Blk.mk [] z true true none):=⟨rfl,fun _=>rfl,rfl,TG _,fun i e h=>(by simp at h),fun _ e he=>(by cases he),fun _=>rfl⟩
theorem PA(n:Int)(h0:0<=n/\n<=10000000000):CT Ux 112 [] [.nils,.int .i64 n] [some (Blk.mk [] 1 true true none)] (.sl 0 0 0):=by
 obtain⟨h0,h1⟩:=h0;have hw:i64.wrap (n-0)=n:=by rw[Int.sub_zero];exact Cq (by omega) (by omega)
 by_cases hp:0<n
 .refine CT.lessOut (hout:=[some (Blk.mk (Ur (i64.wrap (n-0)).toNat (AV.int i64 0)) 1 true true none)]) ?_ rfl fun b blk' hb=>?_
  .refine Ow n ([_],.sl 0 0 0) (.val ?_);unfold JJ;rw[Ae (An (by omega)),hw,Ak (Az hp),Aa hp,Aa (by omega),Aa (by omega)]
  .match b,hb with
   | 0,hb=>cases hb;exact⟨_,rfl,Ca.nought,rfl⟩
 .have e:n=0:=by omega
  subst e;refine CT.virt 1 (hout:=[]) ?_;refine Ow 0 ([],.nils) (.val ?_);unfold JJ;rw[Ae (by rfl),hw,Ae (by rfl)]
theorem FY(x:Am)(k:Int)(hk:0<=k/\k<=1000)(hb:0<=x.b/\x.b<=1000)(hx:x.k<=1000):CT Ux 63 [] [sA x,.int .i64 k] [some (Blk.mk ((Ad x k).map (AV.int .i64)) 1 true true none)] (.sl 0 0 (Ad x k).length):=by
 refine slk_ct x k ([_],_) ?_;unfold Ng;have e0:(some (.inl (Dy.l0 (k+((0:Nat):Int)) ((Uu 0).map fun i:Nat=>x.b+k+(i:Int)))):Option (Dy⊕Ret))=some (.inl (.l0 k [])):=by simp
 rw[<-e0];refine Cu (fun i=>Dy.l0 (k+(i:Int)) ((Uu i).map fun i:Nat=>x.b+k+(i:Int))) (x.k-k).toNat (fun i hi hx=>?_) ?_
 .refine .to (show Gt x k _ _=_ from ?_) hx;unfold Gt;have w1:i64.wrap (x.b+(k+(i:Int)))=x.b+k+(i:Int):=by rw[Cq (by omega) (by omega)];omega
  have w2:i64.wrap (k+(i:Int)+1)=k+((i+1:Nat):Int):=by rw[Cq (by omega) (by omega)];omega
  rw[Ak (Az (by omega)),Aa (by simp only[Tx,Ud,Ua,Ub];omega),Aa (by simp only[Tx,Ud,Ua,Ub];omega),w1,w2,rngM]
 .refine .to (show Gt x k _ _=_ from ?_) (.ret _);unfold Gt;rw[Ae (An (by omega))];rfl
inductive Eh where | l0 (v0:Int)
def Kn(q:Ac)(l:List Int)(z:Nat):Eh->St | .l0 v0=>St.mk 19 [(0,AV.sl 0 0 z),(1,AV.fn 138 [AV.ptr 1 0 0]),(7,iv (iN z)),(8,iv v0)] [some (bK (Uq iv l) 1),some (bK [AV.agg [Uw (boL q.cl),Uw (Uq iv q.bw),Uw (Uq iv q.pe)]] 3)]
def MI:Eh->Nat | .l0 _=>0
def MB(q:Ac)(l:List Int)(z:Nat):Option (Eh⊕Ret):=some (.inl (.l0 ((0:Int))))
def ET(q:Ac)(l:List Int)(z:Nat)(v0:Int):Option (Eh⊕Ret):=br (decide (v0<iN z)) (gu (0<=v0) <|gu (v0<iN z) <|el l (0+v0.toNat) fun(x15:Int)=>gu (0<=x15/\x15<iN q.cl.length) <|br (q.cl.getD x15.toNat true) (some (.inr ([some (bK (Uq iV l) 1),some (bK [AV.agg [Uw (boL q.cl),Uw (Uq iV q.bw),Uw (Uq iV q.pe)]] 3)],iV v0))) (some (.inl (.l0 (i64.wrap (v0+1)))))) (some (.inr ([some (bK (Uq iV l) 1),some (bK [AV.agg [Uw (boL q.cl),Uw (Uq iV q.bw),Uw (Uq iV q.pe)]] 3)],iV (-1))))
def ixlStep(q:Ac)(l:List Int)(z:Nat):Eh->Option (Eh⊕Ret) | .l0 v0=>ET q l z v0
theorem ixlEn_ok(q:Ac)(l:List Int)(z:Nat)(o:Eh⊕Ret)(h:MB q l z=some o):Arr Ux Try.f133 2 (Kn q l z) MI (zB Try.f133) [] {n:=Try.f133.ntmps,fr:=AI 0 ([.sl 0 0 z,.fn 138 [.ptr 1 0 0]]),hp:=([some (bK (l.map (AV.int .i64)) 1),some (bK [sgA q] 3)])} o:=Scr.ok h mix (.lp [] [] [] [] [] [0,1] [0,1,7,8] (aj (u2 (al (u2 (u2 t2)))) (ak (u2 t5)))) (by kernel_rfl)
theorem ixlS0_ok(q:Ac)(l:List Int)(z:Nat)(v0:Int)(o:Eh⊕Ret)(h:ET q l z v0=some o):Arr Ux Try.f133 2 (Kn q l z) MI (Av Try.f133 0) (.rnd (Av Try.f133 0)::AK Try.f133 0) (Kn q l z (.l0 v0)) o:=Scr.ok h mix (.rn 0 [] [] [] [] (al (al t3)) <|.br (fun a0=>.rn 0 [19] [] [] [] (aj a0 (al (u2 s2))) <|.gu fun a1=>.gu fun a2=>.el fun x15 a3=>.gu fun a4=>have c0:=pd1_c q x15 a4;.rn 0 [] [(15,iv x15)] [(16,hK c0 [1] [])] [] (al (u2 (u2 (u2 (aj (k2 (aj a1 a2)) (aj (ak (Ar (f:=iv) a3)) (al (k5 (al (c0)))))))))) <|.br (fun a5=>.rt [33] [] [] [] [0,1] [] (aj (aj a5 (al (u2 s2))) t4)) (fun a5=>.lp [32] [] [] [] [] [0,1] [0,1,7,8] (aj (aj a5 (al (u2 s2))) (ak (u2 t5))))) (fun a0=>.rt [18] [] [] [] [0,1] [] (aj (aj a0 s2) t4))) (by kernel_rfl)
theorem ixl_ct(q:Ac)(l:List Int)(z:Nat)(r:Ret)(h:Aq (ixlStep q l z) (MB q l z) r):CT Ux 133 ([some (bK (l.map (AV.int .i64)) 1),some (bK [sgA q] 3)]) ([.sl 0 0 z,.fn 138 [.ptr 1 0 0]]) r.1 r.2:=
 CT.mach (fn:=Try.f133) (c:=zB Try.f133) (S:=Kn q l z) (hd:=MI) Try.func133 (by kernel_rfl) (nL rfl)
  (fun s o ho=>match s,ho with
   | .l0 v0,ho=>ixlS0_ok q l z v0 o ho
  )
  (fun o ho=>ixlEn_ok q l z o ho) h
theorem ixl_c(q:Ac)(l:List Int)(z:Nat)(hz:z=l.length)(hl:l.length<=1000000)(hr:∀c∈l,0<=c/\c<(q.cl.length:Int)):CT Ux 133 [some (Blk.mk (l.map (AV.int .i64)) 1 true true none),some (Blk.mk [sgA q] 3 true true none)] [.sl 0 0 z,.fn 138 [.ptr 1 0 0]] [some (Blk.mk (l.map (AV.int .i64)) 1 true true none),some (Blk.mk [sgA q] 3 true true none)] (.int .i64 (Ij q.cl l)):=by
 subst hz;refine ixl_ct q l l.length ([_,_],_) ?_;unfold MB Ij;refine(Ki (fun i=>Eh.l0 (i:Int)) l.length (fun i=>q.cl.getD (l.getD i 0).toNat true) (rF:=fun i=>(([some (Blk.mk (l.map (AV.int .i64)) 1 true true none),some (Blk.mk [sgA q] 3 true true none)],.int .i64 (i:Int)):Ret)) (r:=([some (Blk.mk (l.map (AV.int .i64)) 1 true true none),some (Blk.mk [sgA q] 3 true true none)],.int .i64 (-1))) (fun i hi hp=>?_) (fun i x hi hp hx=>?_) (fun _=>?_)).res (by cases fnd (fun i=>q.cl.getD (l.getD i 0).toNat true) 0 l.length<;>rfl)
 .have hm:=hr _ (Ga hi);refine .to (show ET q l l.length i=_ from ?_) (.ret _);unfold ET;rw[Ak (Az (by simp only[iN];omega)),Aa (by omega),Aa (by simp only[iN];omega),TJ,elG 0 hi,Aa hm,Ak hp];rfl
 .have hm:=hr _ (Ga hi);refine .to (show ET q l l.length i=_ from ?_) hx;unfold ET;rw[Ak (Az (by simp only[iN];omega)),Aa (by omega),Aa (by simp only[iN];omega),TJ,elG 0 hi,Aa hm,Ae hp,zW i (by omega)]
 .refine .to (show ET q l l.length l.length=_ from ?_) (.ret _);unfold ET;rw[Ae (An (by simp only[iN];omega))];rfl
def cflSt(q:Ac)(l:List Int)(z:Nat):Empty->St | x=>x.elim
def cflHd:Empty->Nat | x=>x.elim
def Nb(q:Ac)(l:List Int)(z:Nat):Option (Empty⊕Ret):=gu (z=l.length) <|gu (l.length<=1000000) <|gu (∀(c:Int),c∈l->0<=c/\c<iN q.cl.length) <|some (.inr ([some (bK (Uq iV l) 1),some (bK [AV.agg [Uw (boL q.cl),Uw (Uq iV q.bw),Uw (Uq iV q.pe)]] 3)],bV (decide (0<=Ij q.cl l))))
def cflStep(q:Ac)(l:List Int)(z:Nat):Empty->Option (Empty⊕Ret) | x=>x.elim
theorem cflEn_ok(q:Ac)(l:List Int)(z:Nat)(o:Empty⊕Ret)(h:Nb q l z=some o):Arr Ux Try.f137 2 (cflSt q l z) cflHd (zB Try.f137) [] {n:=Try.f137.ntmps,fr:=AI 0 ([.sl 0 0 z,.fn 138 [.ptr 1 0 0]]),hp:=([some (bK (l.map (AV.int .i64)) 1),some (bK [sgA q] 3)])} o:=Scr.ok h mix (.rn 0 [] [] [] [] s2 <|.gu fun a0=>.gu fun a1=>.gu fun a2=>have c0:=ixl_c q l z a0 a1 a2;.rt [] [] [(7,hK c0 [0,1] [])] [] [0,1] [] (aj (al (u2 (u2 (aj (k3 (u2 (k2 (al (c0))))) (u2 s2))))) t4)) (by kernel_rfl)
theorem cfl_ct(q:Ac)(l:List Int)(z:Nat)(r:Ret)(h:Aq (cflStep q l z) (Nb q l z) r):CT Ux 137 ([some (bK (l.map (AV.int .i64)) 1),some (bK [sgA q] 3)]) ([.sl 0 0 z,.fn 138 [.ptr 1 0 0]]) r.1 r.2:=
 CT.mach (fn:=Try.f137) (c:=zB Try.f137) (S:=cflSt q l z) (hd:=cflHd) Try.func137 (by kernel_rfl) (nL rfl)
  (fun s o ho=>match s,ho with
   | x,_=>x.elim)
  (fun o ho=>cflEn_ok q l z o ho) h
theorem cfl_c(q:Ac)(l:List Int)(z:Nat)(hz:z=l.length)(hl:l.length<=1000000)(hr:∀c∈l,0<=c/\c<(q.cl.length:Int)):CT Ux 137 [some (Blk.mk (l.map (AV.int .i64)) 1 true true none),some (Blk.mk [sgA q] 3 true true none)] [.sl 0 0 z,.fn 138 [.ptr 1 0 0]] [some (Blk.mk (l.map (AV.int .i64)) 1 true true none),some (Blk.mk [sgA q] 3 true true none)] (.bool (!(AW q.cl l))):=by refine cfl_ct q l z ([_,_],_) (.val ?_);unfold Nb;rw[Aa hz,Aa hl,Aa hr,pasZ_b];rfl
def palSt(q:Ac)(l:List Int)(z:Nat):Empty->St | x=>x.elim
def palHd:Empty->Nat | x=>x.elim
def Nu(q:Ac)(l:List Int)(z:Nat):Option (Empty⊕Ret):=gu (z=l.length) <|gu (l.length<=1000000) <|gu (∀(c:Int),c∈l->0<=c/\c<iN q.cl.length) <|some (.inr ([some (bK (Uq iV l) 1)],bV !!AW q.cl l))
def palStep(q:Ac)(l:List Int)(z:Nat):Empty->Option (Empty⊕Ret) | x=>x.elim
theorem palEn_ok(q:Ac)(l:List Int)(z:Nat)(o:Empty⊕Ret)(h:Nu q l z=some o):Arr Ux Try.f110 1 (palSt q l z) palHd (zB Try.f110) [] {n:=Try.f110.ntmps,fr:=AI 0 ([sgA q,.sl 0 0 z]),hp:=([some (bK (l.map (AV.int .i64)) 1)])} o:=Scr.ok h mix (.rn 0 [] [] [] [] (al (u2 t2)) <|.gu fun a0=>.gu fun a1=>.gu fun a2=>have c0:=cfl_c q l z a0 a1 a2;.rt [] [] [(7,hK c0 [0,1] [])] [] [0] [] (aj (al (u2 (u2 (aj (k3 (u2 (k2 (al (c0))))) (u2 s2))))) t3)) (by kernel_rfl)
theorem pal_ct(q:Ac)(l:List Int)(z:Nat)(r:Ret)(h:Aq (palStep q l z) (Nu q l z) r):CT Ux 110 ([some (bK (l.map (AV.int .i64)) 1)]) ([sgA q,.sl 0 0 z]) r.1 r.2:=
 CT.mach (fn:=Try.f110) (c:=zB Try.f110) (S:=palSt q l z) (hd:=palHd) Try.func110 (by kernel_rfl) (nL rfl)
  (fun s o ho=>match s,ho with
   | x,_=>x.elim)
  (fun o ho=>palEn_ok q l z o ho) h
theorem pal_c(q:Ac)(l:List Int)(z:Nat)(hz:z=l.length)(hl:l.length<=1000000)(hr:∀c∈l,0<=c/\c<(q.cl.length:Int)):CT Ux 110 [some (Blk.mk (l.map (AV.int .i64)) 1 true true none)] [sgA q,.sl 0 0 z] [some (Blk.mk (l.map (AV.int .i64)) 1 true true none)] (.bool (AW q.cl l)):=by refine pal_ct q l z ([_],_) (.val ?_);unfold Nu;rw[Aa hz,Aa hl,Aa hr,Bool.not_not]
def rskSt(q:Ac)(l:List Int)(z:Nat):Empty->St | x=>x.elim
def rskHd:Empty->Nat | x=>x.elim
def JB(q:Ac)(l:List Int)(z:Nat):Option (Empty⊕Ret):=gu (z=l.length) <|gu (l.length<=1000000) <|gu (∀(c:Int),c∈l->0<=c/\c<iN q.cl.length) <|br (!AW q.cl l) (some (.inr ([some (bK (Uq iV l) 1)],AV.tup [AV.nils,bV false,iV 0]))) (some (.inr ([some (bK (Uq iV l) 1)],AV.tup [AV.sl 0 0 z,bV true,iV 0])))
def rskStep(q:Ac)(l:List Int)(z:Nat):Empty->Option (Empty⊕Ret) | x=>x.elim
theorem rskEn_ok(q:Ac)(l:List Int)(z:Nat)(o:Empty⊕Ret)(h:JB q l z=some o):Arr Ux Try.f64 1 (rskSt q l z) rskHd (zB Try.f64) [] {n:=Try.f64.ntmps,fr:=AI 0 ([sgA q,.sl 0 0 z]),hp:=([some (bK (l.map (AV.int .i64)) 1)])} o:=Scr.ok h mix (.rn 0 [] [] [] [] (al (u2 t4)) <|.gu fun a0=>.gu fun a1=>.gu fun a2=>have c0:=pal_c q l z a0 a1 a2;.rn 0 [] [] [(9,hK c0 [0] [])] [] (al (u2 (u2 (aj (k2 (aj t4 (k2 (al (c0))))) s2)))) <|.br (fun a3=>.rt [21] [] [] [] [0] [] (aj (aj a3 (al t4)) (aj t4 t2))) (fun a3=>.rt [20] [] [] [] [0] [] (aj (aj a3 (al (u2 (u2 t3)))) (aj t4 t2)))) (by kernel_rfl)
theorem P7(q:Ac)(l:List Int)(z:Nat)(r:Ret)(h:Aq (rskStep q l z) (JB q l z) r):CT Ux 64 ([some (bK (l.map (AV.int .i64)) 1)]) ([sgA q,.sl 0 0 z]) r.1 r.2:=
 CT.mach (fn:=Try.f64) (c:=zB Try.f64) (S:=rskSt q l z) (hd:=rskHd) Try.func64 (by kernel_rfl) (nL rfl)
  (fun s o ho=>match s,ho with
   | x,_=>x.elim)
  (fun o ho=>rskEn_ok q l z o ho) h
inductive DY where | l0 (v0 v1:Int) | l1 (v0:List Int) (v1:Int)
def E3(l y z:List Int):DY->St | .l0 v0 v1=>St.mk 36 [(0,AV.sl 0 0 3),(3,iv v0),(9,AV.sl 0 0 3),(10,iv 3),(11,iv v1)] [some (bK [Uw (Uq iv l),Uw (Uq iv y),Uw (Uq iv z)] 1)] | .l1 v0 v1=>St.mk 36 [(6,AV.sl 1 0 v0.length),(25,AV.sl 0 0 3),(26,iv 3),(27,iv v1)] [some (bK [Uw (Uq iv l),Uw (Uq iv y),Uw (Uq iv z)] 1),some (bK (Uq iv v0) 1)]
def JN:DY->Nat | .l0 _ _=>0 | .l1 _ _=>1
def Mb(l y z:List Int):Option (DY⊕Ret):=some (.inl (.l0 ((0:Int)) ((0:Int))))
def D6(l y z:List Int)(v0 v1:Int):Option (DY⊕Ret):=br (decide (v1<3)) (gu (0<=v1) <|gu (v1<3) <|el ([l,y,z]) (0+v1.toNat) fun(x14:List Int)=>br (decide (i64.wrap (v0+iN (Uq iV x14).length)<0)) (none) (some (.inl (.l0 (i64.wrap (v0+iN (Uq iV x14).length)) (i64.wrap (v1+1)))))) (gu (0<=v0/\v0<=10000000000) <|some (.inl (.l1 ([]) ((0:Int)))))
def Ed(l y z:List Int)(v0:List Int)(v1:Int):Option (DY⊕Ret):=br (decide (v1<3)) (gu (0<=v1) <|gu (v1<3) <|el ([l,y,z]) (0+v1.toNat) fun(x30:List Int)=>gu (∀(e:AV),e∈Uq iV x30->e.cells.length=1) <|gu ((Uq iV v0).length+(Uq iV x30).length<=9223372036854775807) <|gu (((Uq iV v0).length+(Uq iV x30).length) * 8<=140737488355328) <|some (.inl (.l1 (v0++x30) (i64.wrap (v1+1))))) (some (.inr ([some (bK [Uw (Uq iV l),Uw (Uq iV y),Uw (Uq iV z)] 1),some (bK (Uq iV v0) 1)],AV.sl 1 0 v0.length)))
def cc3Step(l y z:List Int):DY->Option (DY⊕Ret) | .l0 v0 v1=>D6 l y z v0 v1 | .l1 v0 v1=>Ed l y z v0 v1
theorem cc3En_ok(l y z:List Int)(o:DY⊕Ret)(h:Mb l y z=some o):Arr Ux Try.f68 1 (E3 l y z) JN (zB Try.f68) [] {n:=Try.f68.ntmps,fr:=AI 0 ([.sl 0 0 3]),hp:=([some (bK [lI l,lI y,lI z] 1)])} o:=Scr.ok h mix (.lp [] [] [] [] [] [0] [0,3,9,10,11] (aj (u2 (u2 (al (u2 (u2 t2))))) t7)) (by kernel_rfl)
theorem cc3S0_ok(l y z:List Int)(v0 v1:Int)(o:DY⊕Ret)(h:D6 l y z v0 v1=some o):Arr Ux Try.f68 1 (E3 l y z) JN (Av Try.f68 0) (.rnd (Av Try.f68 0)::AK Try.f68 0) (E3 l y z (.l0 v0 v1)) o:=Scr.ok h mix (.rn 0 [] [] [] [] (al (al t3)) <|.br (fun a0=>.gu fun a1=>.gu fun a2=>.el fun x14 a3=>.rn 2 [25] [(14,lI x14)] [] [] (aj a0 (aj (aj (k2 (aj a1 a2)) (aj (ak (Ar (f:=lI) a3)) s2)) (aj (u2 (u2 (u2 (aj t3 s2)))) (al (u2 s2))))) <|.br (fun a4=>.no) (fun a4=>.lp [40] [] [] [] [] [0] [0,3,9,10,11] (aj (aj a4 (al (u2 s2))) t7))) (fun a0=>.gu fun a1=>have c0:=PA v0 a1;.lp [24] [] [(24,hK c0 [] [])] [] [] [0,1] [6,25,26,27] (aj (aj a0 (aj (u2 (aj (k3 (al (c0))) s2)) (al (u2 (u2 t2))))) t7))) (by kernel_rfl)
theorem cc3S1_ok(l y z:List Int)(v0:List Int)(v1:Int)(o:DY⊕Ret)(h:Ed l y z v0 v1=some o):Arr Ux Try.f68 1 (E3 l y z) JN (Av Try.f68 1) (.rnd (Av Try.f68 1)::AK Try.f68 1) (E3 l y z (.l1 v0 v1)) o:=Scr.ok h mix (.rn 0 [] [] [] [] (al (al t3)) <|.br (fun a0=>.gu fun a1=>.gu fun a2=>.el fun x30 a3=>.rn 0 [57] [(30,lI x30)] [] [] (aj a0 (al (aj (k2 (aj a1 a2)) (aj (ak (Ar (f:=lI) a3)) s2)))) <|.gu fun a4=>.gu fun a5=>.gu fun a6=>.lq [] [] [] [] [] [0,2] [6,25,26,27] (up [(6,AV.sl 1 0 ((Uq iv v0).length+(Uq iv x30).length))] [(1,Uq iv v0++Uq iv x30)] (E3 l y z (.l1 (v0++x30) (i64.wrap (v1+1))))) (aj (aj (u2 (u2 (aj (k2 (aj (show(Uq iv v0).length=v0.length by simp) (aj a4 (aj a5 a6)))) s2))) (al (u2 s2))) t7) (by simp[up,upF,upV,upH,upB,E3,gL,boL,lI])) (fun a0=>.rt [56] [] [] [] [0,1] [] (aj (aj a0 (al (u2 s2))) t4))) (by kernel_rfl)
theorem cc3_ct(l y z:List Int)(r:Ret)(h:Aq (cc3Step l y z) (Mb l y z) r):CT Ux 68 ([some (bK [lI l,lI y,lI z] 1)]) ([.sl 0 0 3]) r.1 r.2:=
 CT.mach (fn:=Try.f68) (c:=zB Try.f68) (S:=E3 l y z) (hd:=JN) Try.func68 (by kernel_rfl) (nL rfl)
  (fun s o ho=>match s,ho with
   | .l0 v0 v1,ho=>cc3S0_ok l y z v0 v1 o ho
   | .l1 v0 v1,ho=>cc3S1_ok l y z v0 v1 o ho
  )
  (fun o ho=>cc3En_ok l y z o ho) h
inductive DQ where | l0 (v0 v1:Int) | l1 (v0:List Int) (v1:Int)
def Fr(y z:List Int):DQ->St | .l0 v0 v1=>St.mk 36 [(0,AV.sl 0 0 2),(3,iv v0),(9,AV.sl 0 0 2),(10,iv 2),(11,iv v1)] [some (bK [Uw (Uq iv y),Uw (Uq iv z)] 1)] | .l1 v0 v1=>St.mk 36 [(6,AV.sl 1 0 v0.length),(25,AV.sl 0 0 2),(26,iv 2),(27,iv v1)] [some (bK [Uw (Uq iv y),Uw (Uq iv z)] 1),some (bK (Uq iv v0) 1)]
def Jm:DQ->Nat | .l0 _ _=>0 | .l1 _ _=>1
def La(y z:List Int):Option (DQ⊕Ret):=some (.inl (.l0 ((0:Int)) ((0:Int))))
def E5(y z:List Int)(v0 v1:Int):Option (DQ⊕Ret):=br (decide (v1<2)) (gu (0<=v1) <|gu (v1<2) <|el ([y,z]) (0+v1.toNat) fun(x14:List Int)=>br (decide (i64.wrap (v0+iN (Uq iV x14).length)<0)) (none) (some (.inl (.l0 (i64.wrap (v0+iN (Uq iV x14).length)) (i64.wrap (v1+1)))))) (gu (0<=v0/\v0<=10000000000) <|some (.inl (.l1 ([]) ((0:Int)))))
def E9(y z:List Int)(v0:List Int)(v1:Int):Option (DQ⊕Ret):=br (decide (v1<2)) (gu (0<=v1) <|gu (v1<2) <|el ([y,z]) (0+v1.toNat) fun(x30:List Int)=>gu (∀(e:AV),e∈Uq iV x30->e.cells.length=1) <|gu ((Uq iV v0).length+(Uq iV x30).length<=9223372036854775807) <|gu (((Uq iV v0).length+(Uq iV x30).length) * 8<=140737488355328) <|some (.inl (.l1 (v0++x30) (i64.wrap (v1+1))))) (some (.inr ([some (bK [Uw (Uq iV y),Uw (Uq iV z)] 1),some (bK (Uq iV v0) 1)],AV.sl 1 0 v0.length)))
def cc2Step(y z:List Int):DQ->Option (DQ⊕Ret) | .l0 v0 v1=>E5 y z v0 v1 | .l1 v0 v1=>E9 y z v0 v1
theorem cc2En_ok(y z:List Int)(o:DQ⊕Ret)(h:La y z=some o):Arr Ux Try.f68 1 (Fr y z) Jm (zB Try.f68) [] {n:=Try.f68.ntmps,fr:=AI 0 ([.sl 0 0 2]),hp:=([some (bK [lI y,lI z] 1)])} o:=Scr.ok h mix (.lp [] [] [] [] [] [0] [0,3,9,10,11] (aj (u2 (u2 (al (u2 (u2 t2))))) t7)) (by kernel_rfl)
theorem cc2S0_ok(y z:List Int)(v0 v1:Int)(o:DQ⊕Ret)(h:E5 y z v0 v1=some o):Arr Ux Try.f68 1 (Fr y z) Jm (Av Try.f68 0) (.rnd (Av Try.f68 0)::AK Try.f68 0) (Fr y z (.l0 v0 v1)) o:=Scr.ok h mix (.rn 0 [] [] [] [] (al (al t3)) <|.br (fun a0=>.gu fun a1=>.gu fun a2=>.el fun x14 a3=>.rn 2 [25] [(14,lI x14)] [] [] (aj a0 (aj (aj (k2 (aj a1 a2)) (aj (ak (Ar (f:=lI) a3)) s2)) (aj (u2 (u2 (u2 (aj t3 s2)))) (al (u2 s2))))) <|.br (fun a4=>.no) (fun a4=>.lp [40] [] [] [] [] [0] [0,3,9,10,11] (aj (aj a4 (al (u2 s2))) t7))) (fun a0=>.gu fun a1=>have c0:=PA v0 a1;.lp [24] [] [(24,hK c0 [] [])] [] [] [0,1] [6,25,26,27] (aj (aj a0 (aj (u2 (aj (k3 (al (c0))) s2)) (al (u2 (u2 t2))))) t7))) (by kernel_rfl)
theorem cc2S1_ok(y z:List Int)(v0:List Int)(v1:Int)(o:DQ⊕Ret)(h:E9 y z v0 v1=some o):Arr Ux Try.f68 1 (Fr y z) Jm (Av Try.f68 1) (.rnd (Av Try.f68 1)::AK Try.f68 1) (Fr y z (.l1 v0 v1)) o:=Scr.ok h mix (.rn 0 [] [] [] [] (al (al t3)) <|.br (fun a0=>.gu fun a1=>.gu fun a2=>.el fun x30 a3=>.rn 0 [57] [(30,lI x30)] [] [] (aj a0 (al (aj (k2 (aj a1 a2)) (aj (ak (Ar (f:=lI) a3)) s2)))) <|.gu fun a4=>.gu fun a5=>.gu fun a6=>.lq [] [] [] [] [] [0,2] [6,25,26,27] (up [(6,AV.sl 1 0 ((Uq iv v0).length+(Uq iv x30).length))] [(1,Uq iv v0++Uq iv x30)] (Fr y z (.l1 (v0++x30) (i64.wrap (v1+1))))) (aj (aj (u2 (u2 (aj (k2 (aj (show(Uq iv v0).length=v0.length by simp) (aj a4 (aj a5 a6)))) s2))) (al (u2 s2))) t7) (by simp[up,upF,upV,upH,upB,Fr,gL,boL,lI])) (fun a0=>.rt [56] [] [] [] [0,1] [] (aj (aj a0 (al (u2 s2))) t4))) (by kernel_rfl)
theorem cc2_ct(y z:List Int)(r:Ret)(h:Aq (cc2Step y z) (La y z) r):CT Ux 68 ([some (bK [lI y,lI z] 1)]) ([.sl 0 0 2]) r.1 r.2:=
 CT.mach (fn:=Try.f68) (c:=zB Try.f68) (S:=Fr y z) (hd:=Jm) Try.func68 (by kernel_rfl) (nL rfl)
  (fun s o ho=>match s,ho with
   | .l0 v0 v1,ho=>cc2S0_ok y z v0 v1 o ho
   | .l1 v0 v1,ho=>cc2S1_ok y z v0 v1 o ho
  )
  (fun o ho=>cc2En_ok y z o ho) h
theorem rsT_c(q:Ac)(l:List Int)(z:Nat)(hz:z=l.length)(hl:l.length<=1000000)(hr:∀c∈l,0<=c/\c<(q.cl.length:Int))(hp:AW q.cl l=true):CT Ux 64 [some (Blk.mk (l.map (AV.int .i64)) 1 true true none)] [sgA q,.sl 0 0 z] [some (Blk.mk (l.map (AV.int .i64)) 1 true true none)] (.tup [.sl 0 0 z,.bool true,.int .i64 0]):=by refine P7 q l z ([_],_) (.val ?_);unfold JB;rw[Aa hz,Aa hl,Aa hr,hp,Ae (by rfl)]
theorem rsF_c(q:Ac)(l:List Int)(z:Nat)(hz:z=l.length)(hl:l.length<=1000000)(hr:∀c∈l,0<=c/\c<(q.cl.length:Int))(hp:AW q.cl l=false):CT Ux 64 [some (Blk.mk (l.map (AV.int .i64)) 1 true true none)] [sgA q,.sl 0 0 z] [some (Blk.mk (l.map (AV.int .i64)) 1 true true none)] (.tup [.nils,.bool false,.int .i64 0]):=by refine P7 q l z ([_],_) (.val ?_);unfold JB;rw[Aa hz,Aa hl,Aa hr,hp,Ak (by rfl)]
theorem JK(l y z:List Int)(hl:(l++y++z).length<=1000000):CT Ux 68 [some (Blk.mk [lI l,lI y,lI z] 1 true true none)] [.sl 0 0 3] [some (Blk.mk [.any,.any,.any] 1 true true none),some (Blk.mk ((l++y++z).map (AV.int .i64)) 1 true true none)] (.sl 1 0 (l++y++z).length):=by
 simp only[TQ] at hl;obtain⟨h1,h2,h3⟩:l.length<=1000000/\y.length<=1000000/\z.length<=1000000:=⟨by omega,by omega,by omega⟩;refine CT.lessOut (hout:=[some (Blk.mk [lI l,lI y,lI z] 1 true true none),some (Blk.mk ((l++y++z).map (AV.int .i64)) 1 true true none)]) ?_ rfl fun b blk' hb=>?_
 .refine cc3_ct l y z ([_,_],_) ?_;unfold Mb;have w1:i64.wrap (0+iN (Uq (AV.int i64) l).length)=(l.length:Int):=by rw[Int.zero_add,Cq]<;>simp only[iN,Tx]<;>omega
  have w2:i64.wrap ((l.length:Int)+iN (Uq (AV.int i64) y).length)=((l.length+y.length:Nat):Int):=by rw[Cq]<;>simp only[iN,Tx]<;>omega
  have w5:i64.wrap (((l.length+y.length:Nat):Int)+iN (Uq (AV.int i64) z).length)=((l.length+y.length+z.length:Nat):Int):=by rw[Cq]<;>simp only[iN,Tx]<;>omega
  have w3:i64.wrap (0+1)=1:=by decide
  have w4:i64.wrap (1+1)=2:=by decide
  have w6:i64.wrap (2+1)=3:=by decide
  refine .to (show D6 l y z 0 0=some (.inl (.l0 (l.length:Int) 1)) from ?_) (.to (show D6 l y z _ 1=some (.inl (.l0 ((l.length+y.length:Nat):Int) 2)) from ?_) (.to (show D6 l y z _ 2=some (.inl (.l0 ((l.length+y.length+z.length:Nat):Int) 3)) from ?_) (.to (show D6 l y z _ 3=some (.inl (.l1 [] 0)) from ?_) (.to (show Ed l y z [] 0=some (.inl (.l1 l 1)) from ?_) (.to (show Ed l y z l 1=some (.inl (.l1 (l++y) 2)) from ?_) (.to (show Ed l y z (l++y) 2=some (.inl (.l1 (l++y++z) 3)) from ?_) (.to (show Ed l y z (l++y++z) 3=_ from ?_) (.ret _))))))))
  .unfold D6;rw[Ak (Az (by omega)),Aa (by omega),Aa (by omega),AH (show [l,y,z][0+Uv 0]?=some l from rfl),w1,Ae (An (by omega)),w3]
  .unfold D6;rw[Ak (Az (by omega)),Aa (by omega),Aa (by omega),AH (show [l,y,z][0+Uv 1]?=some y from rfl),w2,Ae (An (by omega)),w4]
  .unfold D6;rw[Ak (Az (by omega)),Aa (by omega),Aa (by omega),AH (show [l,y,z][0+Uv 2]?=some z from rfl),w5,Ae (An (by omega)),w6]
  .unfold D6;rw[Ae (An (by omega)),Aa (by omega)]
  .unfold Ed;rw[Ak (Az (by omega)),Aa (by omega),Aa (by omega),AH (show [l,y,z][0+Uv 0]?=some l from rfl),Aa (BA _),Aa (by simp only[Tx,Ub];omega),Aa (by simp only[Tx,Ub];omega),w3,List.nil_append]
  .unfold Ed;rw[Ak (Az (by omega)),Aa (by omega),Aa (by omega),AH (show [l,y,z][0+Uv 1]?=some y from rfl),Aa (BA _),Aa (by simp only[Tx];omega),Aa (by simp only[Tx];omega),w4]
  .unfold Ed;rw[Ak (Az (by omega)),Aa (by omega),Aa (by omega),AH (show [l,y,z][0+Uv 2]?=some z from rfl),Aa (BA _),Aa (by simp only[Tx,TQ];omega),Aa (by simp only[Tx,TQ];omega),w6]
  .unfold Ed;rw[Ae (An (by omega))];rfl
 .match b,hb with
  | 0,hb=>cases hb;exact⟨_,rfl,⟨rfl,fun _=>rfl,rfl,TF _,fun i e he=>(by
    match i,he with
    | 0,he=>cases he;exact⟨_,rfl,rfl,fun j c hc=>(by match j,hc with | 0,hc=>cases hc;exact⟨_,rfl,Bj.any rfl⟩)⟩
    | 1,he=>cases he;exact⟨_,rfl,rfl,fun j c hc=>(by match j,hc with | 0,hc=>cases hc;exact⟨_,rfl,Bj.any rfl⟩)⟩
    | 2,he=>cases he;exact⟨_,rfl,rfl,fun j c hc=>(by match j,hc with | 0,hc=>cases hc;exact⟨_,rfl,Bj.any rfl⟩)⟩),fun _ e he=>(by simp only[TZ,List.not_mem_nil,or_false] at he;rcases he with rfl | rfl | rfl<;>intro c hc<;>rw[Tj.1 hc]<;>rfl),fun e=>(by cases e)⟩,rfl⟩
  | 1,hb=>cases hb;exact⟨_,rfl,Ca.refl (fun _ e he=>by obtain⟨x,_,rfl⟩:=T1.1 he;intro c hc;rw[Tj.1 hc];rfl),rfl⟩
  | b+2,hb=>simp[nth] at hb
theorem cc2_c(y z:List Int)(hl:(y++z).length<=1000000):CT Ux 68 [some (Blk.mk [lI y,lI z] 1 true true none)] [.sl 0 0 2] [some (Blk.mk [.any,.any] 1 true true none),some (Blk.mk ((y++z).map (AV.int .i64)) 1 true true none)] (.sl 1 0 (y++z).length):=by
 simp only[TQ] at hl;obtain⟨hy,hz⟩:y.length<=1000000/\z.length<=1000000:=⟨by omega,by omega⟩;refine CT.lessOut (hout:=[some (Blk.mk [lI y,lI z] 1 true true none),some (Blk.mk ((y++z).map (AV.int .i64)) 1 true true none)]) ?_ rfl fun b blk' hb=>?_
 .refine cc2_ct y z ([_,_],_) ?_;unfold La;have w1:i64.wrap (0+iN (Uq (AV.int i64) y).length)=(y.length:Int):=by rw[Int.zero_add,Cq]<;>simp only[iN,Tx]<;>omega
  have w2:i64.wrap ((y.length:Int)+iN (Uq (AV.int i64) z).length)=((y.length+z.length:Nat):Int):=by rw[Cq]<;>simp only[iN,Tx]<;>omega
  have w3:i64.wrap (0+1)=1:=by decide
  have w4:i64.wrap (1+1)=2:=by decide
  refine .to (show E5 y z 0 0=some (.inl (.l0 (y.length:Int) 1)) from ?_) (.to (show E5 y z _ 1=some (.inl (.l0 ((y.length+z.length:Nat):Int) 2)) from ?_) (.to (show E5 y z _ 2=some (.inl (.l1 [] 0)) from ?_) (.to (show E9 y z [] 0=some (.inl (.l1 y 1)) from ?_) (.to (show E9 y z y 1=some (.inl (.l1 (y++z) 2)) from ?_) (.to (show E9 y z (y++z) 2=_ from ?_) (.ret _))))))
  .unfold E5;rw[Ak (Az (by omega)),Aa (by omega),Aa (by omega),AH (show [y,z][0+Uv 0]?=some y from rfl),w1,Ae (An (by omega)),w3]
  .unfold E5;rw[Ak (Az (by omega)),Aa (by omega),Aa (by omega),AH (show [y,z][0+Uv 1]?=some z from rfl),w2,Ae (An (by omega)),w4]
  .unfold E5;rw[Ae (An (by omega)),Aa (by omega)]
  .unfold E9;rw[Ak (Az (by omega)),Aa (by omega),Aa (by omega),AH (show [y,z][0+Uv 0]?=some y from rfl),Aa (BA _),Aa (by simp only[Tx,Ub];omega),Aa (by simp only[Tx,Ub];omega),w3,List.nil_append]
  .unfold E9;rw[Ak (Az (by omega)),Aa (by omega),Aa (by omega),AH (show [y,z][0+Uv 1]?=some z from rfl),Aa (BA _),Aa (by simp only[Tx];omega),Aa (by simp only[Tx];omega),w4]
  .unfold E9;rw[Ae (An (by omega))];rfl
 .match b,hb with
  | 0,hb=>cases hb;exact⟨_,rfl,⟨rfl,fun _=>rfl,rfl,TF _,fun i e he=>(by
    match i,he with
    | 0,he=>cases he;exact⟨_,rfl,rfl,fun j c hc=>(by match j,hc with | 0,hc=>cases hc;exact⟨_,rfl,Bj.any rfl⟩)⟩
    | 1,he=>cases he;exact⟨_,rfl,rfl,fun j c hc=>(by match j,hc with | 0,hc=>cases hc;exact⟨_,rfl,Bj.any rfl⟩)⟩),fun _ e he=>(by simp only[TZ,List.not_mem_nil,or_false] at he;rcases he with rfl | rfl<;>intro c hc<;>rw[Tj.1 hc]<;>rfl),fun e=>(by cases e)⟩,rfl⟩
  | 1,hb=>cases hb;exact⟨_,rfl,Ca.refl (fun _ e he=>by obtain⟨x,_,rfl⟩:=T1.1 he;intro c hc;rw[Tj.1 hc];rfl),rfl⟩
  | b+2,hb=>simp[nth] at hb
@[irreducible] def rsZ(q:Ac)(l:List Int)(z:Nat):Nat:=bif AW q.cl l then z else 0
theorem Lv{q:Ac}{l:List Int}{z:Nat}(h:AW q.cl l=true):rsZ q l z=z:=by unfold rsZ;rw[h];rfl
theorem rsZ_f{q:Ac}{l:List Int}{z:Nat}(h:AW q.cl l=false):rsZ q l z=0:=by unfold rsZ;rw[h];rfl
theorem Gi(q:Ac)(l:List Int)(z:Nat)(hz:z=l.length)(hl:l.length<=1000000)(hr:∀c∈l,0<=c/\c<(q.cl.length:Int)):CT Ux 64 [some (Blk.mk (l.map (AV.int .i64)) 1 true true none)] [sgA q,.sl 0 0 z] [some (Blk.mk (l.map (AV.int .i64)) 1 true true none)] (.tup [.sl 0 0 (rsZ q l z),.bool (AW q.cl l),.int .i64 0]):=by
 cases hp:AW q.cl l with
 | true=>rw[Lv hp];exact rsT_c q l z hz hl hr hp
 | false=>
  rw[rsZ_f hp];refine(rsF_c q l z hz hl hr hp).less fun φ A w v h=>?_
  obtain⟨vs,rfl,hn,hh⟩:=h.tup_inv;refine .tup _ _ (by simpa using hn) fun i c u hc hu=>?_
  match i,hc with
  | 0,hc=>cases hc;rw[(hh 0 _ u rfl hu).nils_inv];exact .slnil 0 0 none
  | 1,hc=>cases hc;exact hh 1 _ u rfl hu
  | 2,hc=>cases hc;exact hh 2 _ u rfl hu
  | j+3,hc=>cases hc
def leTSt(n:Ab)(q:Ac)(c d:Int):Empty->St | x=>x.elim
def leTHd:Empty->Nat | x=>x.elim
def JD(n:Ab)(q:Ac)(c d:Int):Option (Empty⊕Ret):=gu (Rows n.nx) <|br (shE n q != 0) (some (.inr ([],AV.tup [AV.nils,bV false,iV (shE n q)]))) (br (decide (c<0)) (some (.inr ([],AV.tup [AV.nils,bV false,iV 19]))) (br (decide (iN (boL (shO n q)).length<=c)) (some (.inr ([],AV.tup [AV.nils,bV false,iV 19]))) (br (decide (d<0)) (some (.inr ([],AV.tup [AV.nils,bV false,iV 19]))) (br (decide (iN (Uq sA n.ss).length<=d)) (some (.inr ([],AV.tup [AV.nils,bV false,iV 19]))) (gu (0<=d) <|el (n.ss) (d.toNat) fun(x54:Am)=>br (plO n c==d) (gu (0<=pjO n c/\pjO n c<=1000) <|gu (0<=x54.b/\x54.b<=1000) <|gu (x54.k<=1000) <|gu ((Ad x54 (pjO n c)).length<=1000000) <|gu (∀(c_1:Int),c_1∈Ad x54 (pjO n c)->0<=c_1/\c_1<iN q.cl.length) <|some (.inr ([some (bK (Uq iV (Ad x54 (pjO n c))) 1)],AV.tup [AV.sl 0 0 (rsZ q (Ad x54 (pjO n c)) (Ad x54 (pjO n c)).length),bV (AW q.cl (Ad x54 (pjO n c))),iV 0]))) (br (decide (0<=plO n c)) (gu (0<=plO n c) <|el (n.ss) ((plO n c).toNat) fun(x81:Am)=>el (n.ss) ((plO n c).toNat) fun(x87:Am)=>gu (0<=pjO n c/\pjO n c<=1000) <|gu (0<=x87.b/\x87.b<=1000) <|gu (x87.k<=1000) <|gu ((Uq iV (Ad x87 (pjO n c))).length+[iV x81.o].length<=9223372036854775807) <|gu (((Uq iV (Ad x87 (pjO n c))).length+[iV x81.o].length) * 8<=140737488355328) <|gu (n.bs.length<=1000/\n.bs.length<=(shO n q).length/\n.bs.length<=q.cl.length) <|br (iN (Uq iV (Ah n.nx (shG n.bs.length (shO n q) q.cl x81.o x54.i) x81.o x54.i).fst).length==0) (gu (n.bs.length<=1000/\n.bs.length<=q.cl.length) <|br (iN (Uq iV (Ah n.nx (shW n.bs.length q.cl x81.o) x81.o x54.i).fst).length==0) (some (.inr ([],AV.tup [AV.nils,bV false,iV 0]))) (gu (∀(e:AV),e∈Uq iV (Ah n.nx (shW n.bs.length q.cl x81.o) x81.o x54.i).fst->e.cells.length=1) <|gu (1<=iN (Uq iV (Ah n.nx (shW n.bs.length q.cl x81.o) x81.o x54.i).fst).length) <|gu (0<=x54.b/\x54.b<=1000) <|gu (x54.k<=1000) <|gu ((Ad x87 (pjO n c)++[x81.o]++Ut ((Uq iV (Ah n.nx (shW n.bs.length q.cl x81.o) x81.o x54.i).fst).length-Uv 1) (Us (Uv 1) (Ah n.nx (shW n.bs.length q.cl x81.o) x81.o x54.i).fst)++Ad x54 0).length<=1000000) <|gu (∀(blk:Blk),blk∈[bK [AV.any,AV.any,AV.any] 1,bK (Uq iV (Ad x87 (pjO n c)++[x81.o]++Ut ((Uq iV (Ah n.nx (shW n.bs.length q.cl x81.o) x81.o x54.i).fst).length-Uv 1) (Us (Uv 1) (Ah n.nx (shW n.bs.length q.cl x81.o) x81.o x54.i).fst)++Ad x54 0)) 1]->B2 blk) <|gu (∀(c_1:Int),c_1∈Ad x87 (pjO n c)++[x81.o]++Ut ((Uq iV (Ah n.nx (shW n.bs.length q.cl x81.o) x81.o x54.i).fst).length-Uv 1) (Us (Uv 1) (Ah n.nx (shW n.bs.length q.cl x81.o) x81.o x54.i).fst)++Ad x54 0->0<=c_1/\c_1<iN q.cl.length) <|some (.inr ([some (bK (Uq iV (Ad x87 (pjO n c)++[x81.o]++Ut ((Uq iV (Ah n.nx (shW n.bs.length q.cl x81.o) x81.o x54.i).fst).length-Uv 1) (Us (Uv 1) (Ah n.nx (shW n.bs.length q.cl x81.o) x81.o x54.i).fst)++Ad x54 0)) 1)],AV.tup [AV.sl 0 0 (rsZ q (Ad x87 (pjO n c)++[x81.o]++Ut ((Uq iV (Ah n.nx (shW n.bs.length q.cl x81.o) x81.o x54.i).fst).length-Uv 1) (Us (Uv 1) (Ah n.nx (shW n.bs.length q.cl x81.o) x81.o x54.i).fst)++Ad x54 0) (Ad x87 (pjO n c)++[x81.o]++Ut ((Uq iV (Ah n.nx (shW n.bs.length q.cl x81.o) x81.o x54.i).fst).length-Uv 1) (Us (Uv 1) (Ah n.nx (shW n.bs.length q.cl x81.o) x81.o x54.i).fst)++Ad x54 0).length),bV (AW q.cl (Ad x87 (pjO n c)++[x81.o]++Ut ((Uq iV (Ah n.nx (shW n.bs.length q.cl x81.o) x81.o x54.i).fst).length-Uv 1) (Us (Uv 1) (Ah n.nx (shW n.bs.length q.cl x81.o) x81.o x54.i).fst)++Ad x54 0)),iV 0])))) (gu (∀(e:AV),e∈Uq iV (Ah n.nx (shG n.bs.length (shO n q) q.cl x81.o x54.i) x81.o x54.i).fst->e.cells.length=1) <|gu (1<=iN (Uq iV (Ah n.nx (shG n.bs.length (shO n q) q.cl x81.o x54.i) x81.o x54.i).fst).length) <|gu (0<=x54.b/\x54.b<=1000) <|gu (x54.k<=1000) <|gu ((Ad x87 (pjO n c)++[x81.o]++Ut ((Uq iV (Ah n.nx (shG n.bs.length (shO n q) q.cl x81.o x54.i) x81.o x54.i).fst).length-Uv 1) (Us (Uv 1) (Ah n.nx (shG n.bs.length (shO n q) q.cl x81.o x54.i) x81.o x54.i).fst)++Ad x54 0).length<=1000000) <|gu (∀(blk:Blk),blk∈[bK [AV.any,AV.any,AV.any] 1,bK (Uq iV (Ad x87 (pjO n c)++[x81.o]++Ut ((Uq iV (Ah n.nx (shG n.bs.length (shO n q) q.cl x81.o x54.i) x81.o x54.i).fst).length-Uv 1) (Us (Uv 1) (Ah n.nx (shG n.bs.length (shO n q) q.cl x81.o x54.i) x81.o x54.i).fst)++Ad x54 0)) 1]->B2 blk) <|gu (∀(c_1:Int),c_1∈Ad x87 (pjO n c)++[x81.o]++Ut ((Uq iV (Ah n.nx (shG n.bs.length (shO n q) q.cl x81.o x54.i) x81.o x54.i).fst).length-Uv 1) (Us (Uv 1) (Ah n.nx (shG n.bs.length (shO n q) q.cl x81.o x54.i) x81.o x54.i).fst)++Ad x54 0->0<=c_1/\c_1<iN q.cl.length) <|some (.inr ([some (bK (Uq iV (Ad x87 (pjO n c)++[x81.o]++Ut ((Uq iV (Ah n.nx (shG n.bs.length (shO n q) q.cl x81.o x54.i) x81.o x54.i).fst).length-Uv 1) (Us (Uv 1) (Ah n.nx (shG n.bs.length (shO n q) q.cl x81.o x54.i) x81.o x54.i).fst)++Ad x54 0)) 1)],AV.tup [AV.sl 0 0 (rsZ q (Ad x87 (pjO n c)++[x81.o]++Ut ((Uq iV (Ah n.nx (shG n.bs.length (shO n q) q.cl x81.o x54.i) x81.o x54.i).fst).length-Uv 1) (Us (Uv 1) (Ah n.nx (shG n.bs.length (shO n q) q.cl x81.o x54.i) x81.o x54.i).fst)++Ad x54 0) (Ad x87 (pjO n c)++[x81.o]++Ut ((Uq iV (Ah n.nx (shG n.bs.length (shO n q) q.cl x81.o x54.i) x81.o x54.i).fst).length-Uv 1) (Us (Uv 1) (Ah n.nx (shG n.bs.length (shO n q) q.cl x81.o x54.i) x81.o x54.i).fst)++Ad x54 0).length),bV (AW q.cl (Ad x87 (pjO n c)++[x81.o]++Ut ((Uq iV (Ah n.nx (shG n.bs.length (shO n q) q.cl x81.o x54.i) x81.o x54.i).fst).length-Uv 1) (Us (Uv 1) (Ah n.nx (shG n.bs.length (shO n q) q.cl x81.o x54.i) x81.o x54.i).fst)++Ad x54 0)),iV 0])))) (gu (n.bs.length<=1000/\n.bs.length<=(shO n q).length/\n.bs.length<=q.cl.length) <|br (iN (Uq iV (Ah n.nx (shG n.bs.length (shO n q) q.cl c x54.i) c x54.i).fst).length==0) (gu (n.bs.length<=1000/\n.bs.length<=q.cl.length) <|br (iN (Uq iV (Ah n.nx (shW n.bs.length q.cl c) c x54.i).fst).length==0) (some (.inr ([],AV.tup [AV.nils,bV false,iV 0]))) (gu (∀(e:AV),e∈Uq iV (Ah n.nx (shW n.bs.length q.cl c) c x54.i).fst->e.cells.length=1) <|gu (1<=iN (Uq iV (Ah n.nx (shW n.bs.length q.cl c) c x54.i).fst).length) <|gu (0<=x54.b/\x54.b<=1000) <|gu (x54.k<=1000) <|gu (([]++Ut ((Uq iV (Ah n.nx (shW n.bs.length q.cl c) c x54.i).fst).length-Uv 1) (Us (Uv 1) (Ah n.nx (shW n.bs.length q.cl c) c x54.i).fst)++Ad x54 0).length<=1000000) <|gu (∀(blk:Blk),blk∈[bK [AV.any,AV.any,AV.any] 1,bK (Uq iV ([]++Ut ((Uq iV (Ah n.nx (shW n.bs.length q.cl c) c x54.i).fst).length-Uv 1) (Us (Uv 1) (Ah n.nx (shW n.bs.length q.cl c) c x54.i).fst)++Ad x54 0)) 1]->B2 blk) <|gu (∀(c_1:Int),c_1∈[]++Ut ((Uq iV (Ah n.nx (shW n.bs.length q.cl c) c x54.i).fst).length-Uv 1) (Us (Uv 1) (Ah n.nx (shW n.bs.length q.cl c) c x54.i).fst)++Ad x54 0->0<=c_1/\c_1<iN q.cl.length) <|some (.inr ([some (bK (Uq iV ([]++Ut ((Uq iV (Ah n.nx (shW n.bs.length q.cl c) c x54.i).fst).length-Uv 1) (Us (Uv 1) (Ah n.nx (shW n.bs.length q.cl c) c x54.i).fst)++Ad x54 0)) 1)],AV.tup [AV.sl 0 0 (rsZ q ([]++Ut ((Uq iV (Ah n.nx (shW n.bs.length q.cl c) c x54.i).fst).length-Uv 1) (Us (Uv 1) (Ah n.nx (shW n.bs.length q.cl c) c x54.i).fst)++Ad x54 0) ([]++Ut ((Uq iV (Ah n.nx (shW n.bs.length q.cl c) c x54.i).fst).length-Uv 1) (Us (Uv 1) (Ah n.nx (shW n.bs.length q.cl c) c x54.i).fst)++Ad x54 0).length),bV (AW q.cl ([]++Ut ((Uq iV (Ah n.nx (shW n.bs.length q.cl c) c x54.i).fst).length-Uv 1) (Us (Uv 1) (Ah n.nx (shW n.bs.length q.cl c) c x54.i).fst)++Ad x54 0)),iV 0])))) (gu (∀(e:AV),e∈Uq iV (Ah n.nx (shG n.bs.length (shO n q) q.cl c x54.i) c x54.i).fst->e.cells.length=1) <|gu (1<=iN (Uq iV (Ah n.nx (shG n.bs.length (shO n q) q.cl c x54.i) c x54.i).fst).length) <|gu (0<=x54.b/\x54.b<=1000) <|gu (x54.k<=1000) <|gu (([]++Ut ((Uq iV (Ah n.nx (shG n.bs.length (shO n q) q.cl c x54.i) c x54.i).fst).length-Uv 1) (Us (Uv 1) (Ah n.nx (shG n.bs.length (shO n q) q.cl c x54.i) c x54.i).fst)++Ad x54 0).length<=1000000) <|gu (∀(blk:Blk),blk∈[bK [AV.any,AV.any,AV.any] 1,bK (Uq iV ([]++Ut ((Uq iV (Ah n.nx (shG n.bs.length (shO n q) q.cl c x54.i) c x54.i).fst).length-Uv 1) (Us (Uv 1) (Ah n.nx (shG n.bs.length (shO n q) q.cl c x54.i) c x54.i).fst)++Ad x54 0)) 1]->B2 blk) <|gu (∀(c_1:Int),c_1∈[]++Ut ((Uq iV (Ah n.nx (shG n.bs.length (shO n q) q.cl c x54.i) c x54.i).fst).length-Uv 1) (Us (Uv 1) (Ah n.nx (shG n.bs.length (shO n q) q.cl c x54.i) c x54.i).fst)++Ad x54 0->0<=c_1/\c_1<iN q.cl.length) <|some (.inr ([some (bK (Uq iV ([]++Ut ((Uq iV (Ah n.nx (shG n.bs.length (shO n q) q.cl c x54.i) c x54.i).fst).length-Uv 1) (Us (Uv 1) (Ah n.nx (shG n.bs.length (shO n q) q.cl c x54.i) c x54.i).fst)++Ad x54 0)) 1)],AV.tup [AV.sl 0 0 (rsZ q ([]++Ut ((Uq iV (Ah n.nx (shG n.bs.length (shO n q) q.cl c x54.i) c x54.i).fst).length-Uv 1) (Us (Uv 1) (Ah n.nx (shG n.bs.length (shO n q) q.cl c x54.i) c x54.i).fst)++Ad x54 0) ([]++Ut ((Uq iV (Ah n.nx (shG n.bs.length (shO n q) q.cl c x54.i) c x54.i).fst).length-Uv 1) (Us (Uv 1) (Ah n.nx (shG n.bs.length (shO n q) q.cl c x54.i) c x54.i).fst)++Ad x54 0).length),bV (AW q.cl ([]++Ut ((Uq iV (Ah n.nx (shG n.bs.length (shO n q) q.cl c x54.i) c x54.i).fst).length-Uv 1) (Us (Uv 1) (Ah n.nx (shG n.bs.length (shO n q) q.cl c x54.i) c x54.i).fst)++Ad x54 0)),iV 0]))))))))))
def leTStep(n:Ab)(q:Ac)(c d:Int):Empty->Option (Empty⊕Ret) | x=>x.elim
theorem leTEn_ok(n:Ab)(q:Ac)(c d:Int)(o:Empty⊕Ret)(h:JD n q c d=some o):Arr Ux Try.f30 0 (leTSt n q c d) leTHd (zB Try.f30) [] {n:=Try.f30.ntmps,fr:=AI 0 ([Af n,sgA q,.int .i64 c,.int .i64 d]),hp:=([])} o:=Scr.ok h mix (.rn 0 [] [] [] [] (al (u2 (u2 t4))) <|.gu fun a0=>have c0:=ssh_c (q.cl) (q.bw) (q.pe) a0;.rn 1 [] [] [(24,hK c0 [] [])] [] (aj (u2 (u2 (aj (k2 (aj t9 (aj t4 (al (c0))))) (u2 (u2 (u2 (ak (aj (k2 n11) s2)))))))) (al (u2 (u2 s2)))) <|.br (fun a1=>.rt [55] [] [] [] [] [] (aj (aj a1 (al (u2 (k2 s2)))) (al t4))) (fun a1=>.br (fun a2=>.rt [54,69] [] [] [] [] [] (aj (aj a1 (aj (u2 (u2 (u2 (aj a2 (aj a2 (aj a2 (aj a2 (ag a2 (u2 (k2 (aj t3 (u2 (k5 (aj t3 s2)))))))))))))) (ak (al t4)))) (al t4))) (fun a2=>.br (fun a3=>.rt [54,68,81] [] [] [] [] [] (aj (aj a1 (aj (u2 (u2 (u2 (ag a2 (ag a2 (ag a2 (aj (aj a2 t3) (ag a2 (u2 (aj a3 (aj a3 (ag a3 (u2 (k5 (aj t3 s2))))))))))))))) (ak (al t4)))) (al t4))) (fun a3=>.br (fun a4=>.rt [54,68,80,89] [] [] [] [] [] (aj (aj a1 (aj (u2 (u2 (u2 (ag a2 (ag a2 (ag a2 (aj (aj a2 t3) (ag a2 (u2 (ag a3 (ag a3 (ag a3 (u2 (aj a4 (aj a4 (aj a4 (aj a4 (aj a4 (ag a4 s2))))))))))))))))))) (ak (al t4)))) (al t4))) (fun a4=>.rn 0 [54,68,80,88] [] [] [] (aj a1 (al (u2 (u2 (u2 (ag a2 (ag a2 (ag a2 (aj (aj a2 t3) (ag a2 (u2 (ag a3 (ag a3 (ag a3 (u2 (ag a4 (ag a4 (ag a4 (ag a4 (aj (aj a4 t3) (ag a4 s2))))))))))))))))))))) <|.br (fun a5=>.rt [68,80,88,63] [] [] [] [] [] (aj (aj a5 (al t4)) (al t4))) (fun a5=>.gu fun a6=>.el fun x54 a7=>have c1:=plc_c c a0;.rn 2 [68,80,88,62] [(54,sA x54)] [(59,hK c1 [] [])] [] (aj a5 (aj (u2 (u2 (u2 (aj (k2 (aj a6 (Ar (f:=sA) a7))) (u2 (ak (al (k2 n11)))))))) (aj (u2 (u2 (aj (k2 (aj t9 (ak (al (c1))))) (u2 (u2 (u2 (u2 (u2 (u2 s2))))))))) (al (u2 (u2 (al t3))))))) <|.br (fun a8=>.gu fun a9=>.gu fun a10=>.gu fun a11=>have c2:=FY x54 (pjO n c) a9 a10 a11;.rn 0 [68,80,88,131] [] [(68,hK c2 [] [])] [] (aj a8 (al (u2 (u2 (aj (k2 (aj t7 (ak (al (c2))))) s2))))) <|.gu fun a12=>.gu fun a13=>have c3:=Gi q (Ad x54 (pjO n c)) ((Ad x54 (pjO n c)).length) (show(Ad x54 (pjO n c)).length=(Ad x54 (pjO n c)).length from rfl) a12 a13;.rt [68,80,88] [] [(71,hK c3 [4] [])] [] [4] [] (aj (al (u2 (u2 (aj (k2 (aj t4 (k2 (al (c3))))) (u2 (u2 (u2 (u2 (u2 s2))))))))) (aj t4 t2))) (fun a8=>.rn 2 [68,80,88,130] [] [] [] (aj a8 (u2 (aj (u2 (ak (al (k2 n11)))) (al (u2 s2))))) <|.br (fun a9=>.gu fun a10=>.el fun x81 a11=>.rn 0 [68,80,88,155] [(81,sA x81)] [] [] (aj a9 (al (u2 (u2 (u2 (aj (k2 (aj a10 (Ar (f:=sA) a11))) (u2 (u2 (al (k2 (show Nat.le 1 [iv c].length from(nL rfl)))))))))))) <|.el fun x87 a12=>.gu fun a13=>.gu fun a14=>.gu fun a15=>.gu fun a16=>.gu fun a17=>have c2:=FY x87 (pjO n c) a13 a14 a15;.rn 0 [68,80,88] [(87,sA x87)] [(90,hK c2 [] [])] [] (al (u2 (u2 (u2 (aj (k2 (aj a10 (Ar (f:=sA) a12))) (u2 (u2 (aj (k2 (aj t7 (ak (al (c2))))) (u2 (u2 (aj (k2 (aj (show(Uq iv (Ad x87 (pjO n c))).length=(Ad x87 (pjO n c)).length by simp) (aj (aj (show nat_lit 1=nat_lit 1 from rfl) (show 1<=[iv x81.o].length by simp)) (aj a16 a17)))) s2))))))))))) <|.gu fun a18=>have c3:=paA_c n (shO n q) (x81.o) (x81.o) (x54.i) x54 q a0 a18;.rn 1 [68,80,88] [] [(99,hK c3 [2,4,3,1] [])] [] (aj (u2 (aj t5 (u2 (u2 (u2 (aj (ak (k3 (aj t9 (aj t5 (ak (k5 (al (c3)))))))) s2)))))) (al (u2 (u2 s2)))) <|.br (fun a19=>.gu fun a20=>have c4:=paB_c n (x81.o) (x81.o) (x54.i) q a0 a20;.rn 1 [68,80,88,205] [] [(108,hK c4 [1,4] [])] [] (aj a19 (aj (u2 (aj t3 (u2 (u2 (u2 (aj (ak (k3 (aj t9 (aj t3 (ak (k3 (al (c4)))))))) s2)))))) (al (u2 (u2 s2))))) <|.br (fun a21=>.rt [68,80,88,223] [] [] [] [] [] (aj (aj a21 (al t4)) (al t4))) (fun a21=>.gu fun a22=>.gu fun a23=>.gu fun a24=>.gu fun a25=>.gu fun a26=>.gu fun a27=>.gu fun a28=>have c5:=FY x54 (0) (show(0:Int)<=(0:Int)/\(0:Int)<=(1000:Int) from ⟨(by first | exact nL rfl | decide),(by first | exact nL rfl | decide)⟩) a24 a25;have c6:=JK (Ad x87 (pjO n c)++[x81.o]) (Ut ((Uq iv (Ah n.nx (shW n.bs.length q.cl x81.o) x81.o x54.i).fst).length-Uv 1) (Us (Uv 1) (Ah n.nx (shW n.bs.length q.cl x81.o) x81.o x54.i).fst)) (Ad x54 0) a26;have c7:=Gi q (Ad x87 (pjO n c)++[x81.o]++Ut ((Uq iv (Ah n.nx (shW n.bs.length q.cl x81.o) x81.o x54.i).fst).length-Uv 1) (Us (Uv 1) (Ah n.nx (shW n.bs.length q.cl x81.o) x81.o x54.i).fst)++Ad x54 0) ((Ad x87 (pjO n c)++[x81.o]++Ut ((Uq iv (Ah n.nx (shW n.bs.length q.cl x81.o) x81.o x54.i).fst).length-Uv 1) (Us (Uv 1) (Ah n.nx (shW n.bs.length q.cl x81.o) x81.o x54.i).fst)++Ad x54 0).length) (show(Ad x87 (pjO n c)++[x81.o]++Ut ((Uq iv (Ah n.nx (shW n.bs.length q.cl x81.o) x81.o x54.i).fst).length-Uv 1) (Us (Uv 1) (Ah n.nx (shW n.bs.length q.cl x81.o) x81.o x54.i).fst)++Ad x54 0).length=(Ad x87 (pjO n c)++[x81.o]++Ut ((Uq iv (Ah n.nx (shW n.bs.length q.cl x81.o) x81.o x54.i).fst).length-Uv 1) (Us (Uv 1) (Ah n.nx (shW n.bs.length q.cl x81.o) x81.o x54.i).fst)++Ad x54 0).length from rfl) a26 a28;.rt [68,80,88,222] [] [(117,hK c5 [] []),(119,hK c6 [9] [7,8]),(120,hK c7 [10] [])] [] [10] [] (aj (aj a21 (al (u2 (u2 (u2 (aj (ak (aj a22 (aj (show(0:Int)<=(1:Int) from(by first | exact nL rfl | decide)) (aj a23 (aj (show iN (Uq iv (Ah n.nx (shW n.bs.length q.cl x81.o) x81.o x54.i).fst).length<=iN (Uq iv (Ah n.nx (shW n.bs.length q.cl x81.o) x81.o x54.i).fst).length by omega) (show iN (Uq iv (Ah n.nx (shW n.bs.length q.cl x81.o) x81.o x54.i).fst).length<=iN (Uq iv (Ah n.nx (shW n.bs.length q.cl x81.o) x81.o x54.i).fst).length by omega)))))) (u2 (aj (ak (aj t7 (ak (al (c5))))) (aj t4 (aj (k2 (aj (aj (show(Uq iv (Ad x87 (pjO n c))).length+[iv x81.o].length=(Uq iv (Ad x87 (pjO n c))++[iv x81.o]).length by simp) (ak (al (show(Ad x54 0).length=(Uq iv (Ad x54 0)).length by simp)))) (aj (show CT Ux 68 [some (bK [Uw (Uq iv (Ad x87 (pjO n c))++[iv x81.o]),Uw (Ut ((Uq iv (Ah n.nx (shW n.bs.length q.cl x81.o) x81.o x54.i).fst).length-Uv 1) (Us (Uv 1) (Uq iv (Ah n.nx (shW n.bs.length q.cl x81.o) x81.o x54.i).fst))),Uw (Uq iv (Ad x54 0))] 1)] [AV.sl 0 0 3] [some (bK [AV.any,AV.any,AV.any] 1),some (bK (Uq iv (Ad x87 (pjO n c)++[x81.o]++Ut ((Uq iv (Ah n.nx (shW n.bs.length q.cl x81.o) x81.o x54.i).fst).length-Uv 1) (Us (Uv 1) (Ah n.nx (shW n.bs.length q.cl x81.o) x81.o x54.i).fst)++Ad x54 0)) 1)] (AV.sl 1 0 (Ad x87 (pjO n c)++[x81.o]++Ut ((Uq iv (Ah n.nx (shW n.bs.length q.cl x81.o) x81.o x54.i).fst).length-Uv 1) (Us (Uv 1) (Ah n.nx (shW n.bs.length q.cl x81.o) x81.o x54.i).fst)++Ad x54 0).length) from CT.eqs (c6) (by simp[gL,boL,lI,sA,bA]<;>rfl) (by simp[gL,boL,lI,sA,bA]<;>rfl)) a27))) (aj (k2 (aj t4 (k2 (al (c7))))) (u2 (u2 (u2 (u2 (u2 s2)))))))))))))))) (aj t4 t2)))) (fun a19=>.rn 0 [68,80,88,204] [] [] [] (aj a19 (al (u2 (u2 s2)))) <|.gu fun a20=>.gu fun a21=>.gu fun a22=>.gu fun a23=>.gu fun a24=>.gu fun a25=>.gu fun a26=>have c4:=FY x54 (0) (show(0:Int)<=(0:Int)/\(0:Int)<=(1000:Int) from ⟨(by first | exact nL rfl | decide),(by first | exact nL rfl | decide)⟩) a22 a23;have c5:=JK (Ad x87 (pjO n c)++[x81.o]) (Ut ((Uq iv (Ah n.nx (shG n.bs.length (shO n q) q.cl x81.o x54.i) x81.o x54.i).fst).length-Uv 1) (Us (Uv 1) (Ah n.nx (shG n.bs.length (shO n q) q.cl x81.o x54.i) x81.o x54.i).fst)) (Ad x54 0) a24;have c6:=Gi q (Ad x87 (pjO n c)++[x81.o]++Ut ((Uq iv (Ah n.nx (shG n.bs.length (shO n q) q.cl x81.o x54.i) x81.o x54.i).fst).length-Uv 1) (Us (Uv 1) (Ah n.nx (shG n.bs.length (shO n q) q.cl x81.o x54.i) x81.o x54.i).fst)++Ad x54 0) ((Ad x87 (pjO n c)++[x81.o]++Ut ((Uq iv (Ah n.nx (shG n.bs.length (shO n q) q.cl x81.o x54.i) x81.o x54.i).fst).length-Uv 1) (Us (Uv 1) (Ah n.nx (shG n.bs.length (shO n q) q.cl x81.o x54.i) x81.o x54.i).fst)++Ad x54 0).length) (show(Ad x87 (pjO n c)++[x81.o]++Ut ((Uq iv (Ah n.nx (shG n.bs.length (shO n q) q.cl x81.o x54.i) x81.o x54.i).fst).length-Uv 1) (Us (Uv 1) (Ah n.nx (shG n.bs.length (shO n q) q.cl x81.o x54.i) x81.o x54.i).fst)++Ad x54 0).length=(Ad x87 (pjO n c)++[x81.o]++Ut ((Uq iv (Ah n.nx (shG n.bs.length (shO n q) q.cl x81.o x54.i) x81.o x54.i).fst).length-Uv 1) (Us (Uv 1) (Ah n.nx (shG n.bs.length (shO n q) q.cl x81.o x54.i) x81.o x54.i).fst)++Ad x54 0).length from rfl) a24 a26;.rt [68,80,88,222] [] [(117,hK c4 [] []),(119,hK c5 [9] [7,8]),(120,hK c6 [10] [])] [] [10] [] (aj (aj a19 (al (u2 (u2 (u2 (aj (ak (aj a20 (aj (show(0:Int)<=(1:Int) from(by first | exact nL rfl | decide)) (aj a21 (aj (show iN (Uq iv (Ah n.nx (shG n.bs.length (shO n q) q.cl x81.o x54.i) x81.o x54.i).fst).length<=iN (Uq iv (Ah n.nx (shG n.bs.length (shO n q) q.cl x81.o x54.i) x81.o x54.i).fst).length by omega) (show iN (Uq iv (Ah n.nx (shG n.bs.length (shO n q) q.cl x81.o x54.i) x81.o x54.i).fst).length<=iN (Uq iv (Ah n.nx (shG n.bs.length (shO n q) q.cl x81.o x54.i) x81.o x54.i).fst).length by omega)))))) (u2 (aj (ak (aj t7 (ak (al (c4))))) (aj t4 (aj (k2 (aj (aj (show(Uq iv (Ad x87 (pjO n c))).length+[iv x81.o].length=(Uq iv (Ad x87 (pjO n c))++[iv x81.o]).length by simp) (ak (al (show(Ad x54 0).length=(Uq iv (Ad x54 0)).length by simp)))) (aj (show CT Ux 68 [some (bK [Uw (Uq iv (Ad x87 (pjO n c))++[iv x81.o]),Uw (Ut ((Uq iv (Ah n.nx (shG n.bs.length (shO n q) q.cl x81.o x54.i) x81.o x54.i).fst).length-Uv 1) (Us (Uv 1) (Uq iv (Ah n.nx (shG n.bs.length (shO n q) q.cl x81.o x54.i) x81.o x54.i).fst))),Uw (Uq iv (Ad x54 0))] 1)] [AV.sl 0 0 3] [some (bK [AV.any,AV.any,AV.any] 1),some (bK (Uq iv (Ad x87 (pjO n c)++[x81.o]++Ut ((Uq iv (Ah n.nx (shG n.bs.length (shO n q) q.cl x81.o x54.i) x81.o x54.i).fst).length-Uv 1) (Us (Uv 1) (Ah n.nx (shG n.bs.length (shO n q) q.cl x81.o x54.i) x81.o x54.i).fst)++Ad x54 0)) 1)] (AV.sl 1 0 (Ad x87 (pjO n c)++[x81.o]++Ut ((Uq iv (Ah n.nx (shG n.bs.length (shO n q) q.cl x81.o x54.i) x81.o x54.i).fst).length-Uv 1) (Us (Uv 1) (Ah n.nx (shG n.bs.length (shO n q) q.cl x81.o x54.i) x81.o x54.i).fst)++Ad x54 0).length) from CT.eqs (c5) (by simp[gL,boL,lI,sA,bA]<;>rfl) (by simp[gL,boL,lI,sA,bA]<;>rfl)) a25))) (aj (k2 (aj t4 (k2 (al (c6))))) (u2 (u2 (u2 (u2 (u2 s2)))))))))))))))) (aj t4 t2)))) (fun a9=>.gu fun a10=>have c2:=paA_c n (shO n q) c c (x54.i) x54 q a0 a10;.rn 1 [68,80,88,154] [] [(99,hK c2 [2,4,3,1] [])] [] (aj a9 (aj (u2 (aj t5 (u2 (u2 (u2 (aj (ak (k3 (aj t9 (aj t5 (ak (k5 (al (c2)))))))) s2)))))) (al (u2 (u2 s2))))) <|.br (fun a11=>.gu fun a12=>have c3:=paB_c n c c (x54.i) q a0 a12;.rn 1 [68,80,88,205] [] [(108,hK c3 [1,4] [])] [] (aj a11 (aj (u2 (aj t3 (u2 (u2 (u2 (aj (ak (k3 (aj t9 (aj t3 (ak (k3 (al (c3)))))))) s2)))))) (al (u2 (u2 s2))))) <|.br (fun a13=>.rt [68,80,88,223] [] [] [] [] [] (aj (aj a13 (al t4)) (al t4))) (fun a13=>.gu fun a14=>.gu fun a15=>.gu fun a16=>.gu fun a17=>.gu fun a18=>.gu fun a19=>.gu fun a20=>have c4:=FY x54 (0) (show(0:Int)<=(0:Int)/\(0:Int)<=(1000:Int) from ⟨(by first | exact nL rfl | decide),(by first | exact nL rfl | decide)⟩) a16 a17;have c5:=JK ([]) (Ut ((Uq iv (Ah n.nx (shW n.bs.length q.cl c) c x54.i).fst).length-Uv 1) (Us (Uv 1) (Ah n.nx (shW n.bs.length q.cl c) c x54.i).fst)) (Ad x54 0) a18;have c6:=Gi q ([]++Ut ((Uq iv (Ah n.nx (shW n.bs.length q.cl c) c x54.i).fst).length-Uv 1) (Us (Uv 1) (Ah n.nx (shW n.bs.length q.cl c) c x54.i).fst)++Ad x54 0) (([]++Ut ((Uq iv (Ah n.nx (shW n.bs.length q.cl c) c x54.i).fst).length-Uv 1) (Us (Uv 1) (Ah n.nx (shW n.bs.length q.cl c) c x54.i).fst)++Ad x54 0).length) (show([]++Ut ((Uq iv (Ah n.nx (shW n.bs.length q.cl c) c x54.i).fst).length-Uv 1) (Us (Uv 1) (Ah n.nx (shW n.bs.length q.cl c) c x54.i).fst)++Ad x54 0).length=([]++Ut ((Uq iv (Ah n.nx (shW n.bs.length q.cl c) c x54.i).fst).length-Uv 1) (Us (Uv 1) (Ah n.nx (shW n.bs.length q.cl c) c x54.i).fst)++Ad x54 0).length from rfl) a18 a20;.rt [68,80,88,222] [(118,AV.tup [])] [(117,hK c4 [] []),(119,hK c5 [6] [5]),(120,hK c6 [7] [])] [] [7] [] (aj (aj a13 (al (u2 (u2 (u2 (aj (ak (aj a14 (aj (show(0:Int)<=(1:Int) from(by first | exact nL rfl | decide)) (aj a15 (aj (show iN (Uq iv (Ah n.nx (shW n.bs.length q.cl c) c x54.i).fst).length<=iN (Uq iv (Ah n.nx (shW n.bs.length q.cl c) c x54.i).fst).length by omega) (show iN (Uq iv (Ah n.nx (shW n.bs.length q.cl c) c x54.i).fst).length<=iN (Uq iv (Ah n.nx (shW n.bs.length q.cl c) c x54.i).fst).length by omega)))))) (u2 (aj (ak (aj t7 (ak (al (c4))))) (aj t4 (aj (k2 (aj (k2 (al (show(Ad x54 0).length=(Uq iv (Ad x54 0)).length by simp))) (aj (show CT Ux 68 [some (bK [Uw [],Uw (Ut ((Uq iv (Ah n.nx (shW n.bs.length q.cl c) c x54.i).fst).length-Uv 1) (Us (Uv 1) (Uq iv (Ah n.nx (shW n.bs.length q.cl c) c x54.i).fst))),Uw (Uq iv (Ad x54 0))] 1)] [AV.sl 0 0 3] [some (bK [AV.any,AV.any,AV.any] 1),some (bK (Uq iv ([]++Ut ((Uq iv (Ah n.nx (shW n.bs.length q.cl c) c x54.i).fst).length-Uv 1) (Us (Uv 1) (Ah n.nx (shW n.bs.length q.cl c) c x54.i).fst)++Ad x54 0)) 1)] (AV.sl 1 0 ([]++Ut ((Uq iv (Ah n.nx (shW n.bs.length q.cl c) c x54.i).fst).length-Uv 1) (Us (Uv 1) (Ah n.nx (shW n.bs.length q.cl c) c x54.i).fst)++Ad x54 0).length) from CT.eqs (c5) (by simp[gL,boL,lI,sA,bA]<;>rfl) (by simp[gL,boL,lI,sA,bA]<;>rfl)) a19))) (aj (k2 (aj t4 (k2 (al (c6))))) (u2 (u2 (u2 (u2 (u2 s2)))))))))))))))) (aj t4 t2)))) (fun a11=>.rn 0 [68,80,88,204] [] [] [] (aj a11 (al (u2 (u2 s2)))) <|.gu fun a12=>.gu fun a13=>.gu fun a14=>.gu fun a15=>.gu fun a16=>.gu fun a17=>.gu fun a18=>have c3:=FY x54 (0) (show(0:Int)<=(0:Int)/\(0:Int)<=(1000:Int) from ⟨(by first | exact nL rfl | decide),(by first | exact nL rfl | decide)⟩) a14 a15;have c4:=JK ([]) (Ut ((Uq iv (Ah n.nx (shG n.bs.length (shO n q) q.cl c x54.i) c x54.i).fst).length-Uv 1) (Us (Uv 1) (Ah n.nx (shG n.bs.length (shO n q) q.cl c x54.i) c x54.i).fst)) (Ad x54 0) a16;have c5:=Gi q ([]++Ut ((Uq iv (Ah n.nx (shG n.bs.length (shO n q) q.cl c x54.i) c x54.i).fst).length-Uv 1) (Us (Uv 1) (Ah n.nx (shG n.bs.length (shO n q) q.cl c x54.i) c x54.i).fst)++Ad x54 0) (([]++Ut ((Uq iv (Ah n.nx (shG n.bs.length (shO n q) q.cl c x54.i) c x54.i).fst).length-Uv 1) (Us (Uv 1) (Ah n.nx (shG n.bs.length (shO n q) q.cl c x54.i) c x54.i).fst)++Ad x54 0).length) (show([]++Ut ((Uq iv (Ah n.nx (shG n.bs.length (shO n q) q.cl c x54.i) c x54.i).fst).length-Uv 1) (Us (Uv 1) (Ah n.nx (shG n.bs.length (shO n q) q.cl c x54.i) c x54.i).fst)++Ad x54 0).length=([]++Ut ((Uq iv (Ah n.nx (shG n.bs.length (shO n q) q.cl c x54.i) c x54.i).fst).length-Uv 1) (Us (Uv 1) (Ah n.nx (shG n.bs.length (shO n q) q.cl c x54.i) c x54.i).fst)++Ad x54 0).length from rfl) a16 a18;.rt [68,80,88,222] [(118,AV.tup [])] [(117,hK c3 [] []),(119,hK c4 [6] [5]),(120,hK c5 [7] [])] [] [7] [] (aj (aj a11 (al (u2 (u2 (u2 (aj (ak (aj a12 (aj (show(0:Int)<=(1:Int) from(by first | exact nL rfl | decide)) (aj a13 (aj (show iN (Uq iv (Ah n.nx (shG n.bs.length (shO n q) q.cl c x54.i) c x54.i).fst).length<=iN (Uq iv (Ah n.nx (shG n.bs.length (shO n q) q.cl c x54.i) c x54.i).fst).length by omega) (show iN (Uq iv (Ah n.nx (shG n.bs.length (shO n q) q.cl c x54.i) c x54.i).fst).length<=iN (Uq iv (Ah n.nx (shG n.bs.length (shO n q) q.cl c x54.i) c x54.i).fst).length by omega)))))) (u2 (aj (ak (aj t7 (ak (al (c3))))) (aj t4 (aj (k2 (aj (k2 (al (show(Ad x54 0).length=(Uq iv (Ad x54 0)).length by simp))) (aj (show CT Ux 68 [some (bK [Uw [],Uw (Ut ((Uq iv (Ah n.nx (shG n.bs.length (shO n q) q.cl c x54.i) c x54.i).fst).length-Uv 1) (Us (Uv 1) (Uq iv (Ah n.nx (shG n.bs.length (shO n q) q.cl c x54.i) c x54.i).fst))),Uw (Uq iv (Ad x54 0))] 1)] [AV.sl 0 0 3] [some (bK [AV.any,AV.any,AV.any] 1),some (bK (Uq iv ([]++Ut ((Uq iv (Ah n.nx (shG n.bs.length (shO n q) q.cl c x54.i) c x54.i).fst).length-Uv 1) (Us (Uv 1) (Ah n.nx (shG n.bs.length (shO n q) q.cl c x54.i) c x54.i).fst)++Ad x54 0)) 1)] (AV.sl 1 0 ([]++Ut ((Uq iv (Ah n.nx (shG n.bs.length (shO n q) q.cl c x54.i) c x54.i).fst).length-Uv 1) (Us (Uv 1) (Ah n.nx (shG n.bs.length (shO n q) q.cl c x54.i) c x54.i).fst)++Ad x54 0).length) from CT.eqs (c4) (by simp[gL,boL,lI,sA,bA]<;>rfl) (by simp[gL,boL,lI,sA,bA]<;>rfl)) a17))) (aj (k2 (aj t4 (k2 (al (c5))))) (u2 (u2 (u2 (u2 (u2 s2)))))))))))))))) (aj t4 t2))))))))))) (by kernel_rfl)
theorem Om(n:Ab)(q:Ac)(c d:Int)(r:Ret)(h:Aq (leTStep n q c d) (JD n q c d) r):CT Ux 30 ([]) ([Af n,sgA q,.int .i64 c,.int .i64 d]) r.1 r.2:=
 CT.mach (fn:=Try.f30) (c:=zB Try.f30) (S:=leTSt n q c d) (hd:=leTHd) Try.func30 (by kernel_rfl) (nL rfl)
  (fun s o ho=>match s,ho with
   | x,_=>x.elim)
  (fun o ho=>leTEn_ok n q c d o ho) h
theorem chkZ_ok{n:Ab}(hv:Ax n){sh:List Bool}(hl:sh.length=n.bs.length){a b:Int}(ha:0<=a/\a<(n.bs.length:Int))(hb:0<=b/\b<(n.bs.length:Int)):C2 n.nx sh a b=0:=by
 have h:=hv.chk;have hn:=hv.nx;unfold DA at h;unfold C2;split at h
 .cases h
 .rename_i h1;split at h
  .cases h
  .rename_i h2;rw[Tt h1,Tt h2,Tt (by omega)]
theorem I7{n:Ab}(hv:Ax n){sh:List Bool}(hl:sh.length=n.bs.length){a b:Int}(ha:0<=a/\a<(n.bs.length:Int))(hb:0<=b/\b<(n.bs.length:Int)):(Ah n.nx sh a b).1=AL n.nx sh a.toNat b.toNat:=by unfold Ah AL H8;rw[Ts (chkZ_ok hv hl ha hb)];split<;>rfl
theorem KJ(p:List Int):Ut ((Uq (AV.int i64) p).length-Uv 1) (Us (Uv 1) p)=p.tail:=by rw[show Uv 1=1 from rfl,List.drop_one,Tx,List.take_of_length_le (by rw[List.length_tail];exact TF _)]
theorem I6{p:List Int}:(iN (Uq (AV.int i64) p).length==0)=decide (p=[]):=by
 cases p with
 | nil=>rfl
 | cons x r=>rw[Tq,Ua];simp[iN];omega
theorem IK{n:Ab}(hv:Ax n)(hrw:Rows n.nx){sh:List Bool}(hl:sh.length=n.bs.length){a b:Nat}(ha:a<n.bs.length)(hb:b<n.bs.length):(AL n.nx sh a b).length<=100:=by
 have hn:=hv.nx;have h24:=hv.nb24;rcases ML hv hrw hl ha hb with h | ⟨_,h⟩
 .rw[h];exact TG _
 .have:=h.len;have hD:=(D9 (okg hv hrw hl).1 (goal:=b) (by omega)).bnd a (by omega);unfold dsS at this;omega
theorem Ho{n:Ab}(hv:Ax n)(hrw:Rows n.nx){s:Ac}{blk goal:Int}(hb:0<=blk/\blk<(n.bs.length:Int))(hg:0<=goal/\goal<(n.bs.length:Int)):(AD n s blk goal).length<=100:=by
 unfold AD;split
 .exact IK hv hrw (I8 _ _ _) (by omega) (by omega)
 .exact IK hv hrw (KW _ _ _ _) (by omega) (by omega)
theorem Kv(l:List Int):∀(blk:Blk),blk∈[Blk.mk [AV.any,AV.any,AV.any] 1 true true none,Blk.mk (Uq (AV.int .i64) l) 1 true true none]->B2 blk:=fun blk hb=>by
 rcases TZ.1 hb with rfl | hb
 .intro e he c hc;simp only[TZ,List.not_mem_nil,or_false,or_self] at he;subst he;rw[Tj.1 hc];rfl
 .exact IU l blk hb
def De(n:Ab)(s:Ac)(c sp:Int):List Int×Bool:=if Bn n s c sp=0 then Bg n s c sp else ([],false)
theorem Oe{n:Ab}{s:Ac}{c sp:Int}(h:Bn n s c sp=0):Br n s=true/\(0<=c/\c<(Au n:Int))/\0<=sp/\sp<(n.ss.length:Int):=by
 unfold Bn at h;split at h
 .rename_i h1;split at h
  .rename_i h2;exact⟨h1,h2⟩
  .cases h
 .cases h
theorem leg_bad{n:Ab}{s:Ac}{c d:Int}(hrw:Rows n.nx)(h:Bn n s c d≠0):CT Ux 30 [] [Af n,sgA s,.int .i64 c,.int .i64 d] [] (.tup [.nils,.bool false,.int .i64 (Bn n s c d)]):=by
 refine Om n s c d ([],_) (.val ?_);unfold JD shE shO;rw[Aa hrw];unfold Bn at h ⊢
 cases hs:Br n s with
 | false=>rw[Tt (by simp),Tt (by simp)];rfl
 | true=>
  rw[hs,Ts rfl] at h;rw[Ts rfl,Ts rfl,Ts rfl,Ae (by rfl)];have hlc:=(Dv hs).2.1.lc;have hlen:=CI s;split at h
  .exact absurd rfl h
  .rename_i h2;rw[Tt h2];by_cases h3:c<0
   .rw[Ak (Az h3)]
   by_cases h4:(Au n:Int)<=c
   .rw[Ae (An h3),Ak (Az (by rw[BM];simp only[iN];omega))]
   by_cases h5:d<0
   .rw[Ae (An h3),Ae (An (by rw[BM];simp only[iN];omega)),Ak (Az h5)]
   .rw[Ae (An h3),Ae (An (by rw[BM];simp only[iN];omega)),Ae (An h5),Ak (Az (by rw[Tx];simp only[iN];omega))]
theorem CT.ren{f:FuncId}{hin hout:List (Option Blk)}{args:List AV}{res:AV}{st1:St}(h:CT Ux f hin args hout res)(hr:Ren hin.length ⟨1,[(0,res)],hout⟩ st1):CT Ux f hin args st1.hp (AX.Ao st1.fr 0):=by
 intro φ A w vs hA hh ho hl hv;refine(h φ A w vs hA hh ho hl hv).mono fun e w' ⟨v,φ',he,C⟩=>?_
 have hrel:Rel A w.heap.size hin.length φ' ⟨1,[(0,res)],hout⟩ {tmps:=#[v],defers:=[]} w':=by
  refine⟨rfl,rfl,fun s=>?_,C.heap,C.out,C.keep.size,C.own⟩;cases s with
  | zero=>exact C.val
  | succ s=>exact .imm _ _ (.unk _)
 obtain⟨φ2,r2,hm,tr⟩:=hr A w.heap.size φ' _ w' C.len hrel;refine⟨v,φ2,he,⟨fun b hb=>(tr.par b hb).trans (C.par b hb),C.keep,fun r hr2=>?_,r2.heap,r2.slot 0,r2.out,hm,r2.own⟩⟩;rcases tr.mutd r hr2 with h1 | h1
 .exact C.mutd r h1
 .exact .inr (Uc C.keep.size h1)
theorem CT.frz{f:FuncId}{args:List AV}{es:List AV}{n:Nat}{b:Bool}{x:Int}(h:CT Ux f [] args [some (Blk.mk es 1 true true none)] (.tup [.sl 0 0 n,.bool b,.int .i64 x]))(hn:n=es.length):CT Ux f [] args [] (.tup [.lst es,.bool b,.int .i64 x]):=CT.ren h (Ren.of (st':=⟨1,[(0,.tup [.lst es,.bool b,.int .i64 x])],[]⟩) [] [0] [0] (p:=(n=es.length/\True/\True/\True)/\True) rfl ⟨⟨hn,trivial,trivial,trivial⟩,trivial⟩ rfl rfl rfl)
def lrT(n:Ab)(s:Ac)(c d:Int):Ret:=match Bh n s c d with
 | none=>([],.tup [.nils,.bool false,.int .i64 0])
 | some l=>([some (Blk.mk (l.map (AV.int .i64)) 1 true true none)],.tup [.sl 0 0 (rsZ s l l.length),.bool (AW s.cl l),.int .i64 0])
theorem leg_T{n:Ab}{s:Ac}{c d:Int}(hrw:Rows n.nx)(h:Bn n s c d=0):CT Ux 30 [] [Af n,sgA s,.int .i64 c,.int .i64 d] (lrT n s c d).1 (lrT n s c d).2:=by
 obtain⟨hsb,hc,hd⟩:=Oe h;obtain⟨hv,hS,l1,l2,l3,l4,l5⟩:=Dv hsb;have hlc:=hS.lc;have hlen:=CI s;have hce:=hv.cel;have h24:=hv.nb24;have hck:=Qh hv hc.1 hc.2;have hs:=AR s0 (show d.toNat<n.ss.length by omega);have gi:=(hv.goodT _ _ hs).hi;have gb:=hv.sb hs;have hR:=@Ql n hv hrw s c d hc hd;have hslt:=C1 (n.ss.getD d.toNat s0) 0;unfold lrT;have k:=Om n s c d;unfold JD shE shO plO pjO at k;rw[Aa hrw,Ts hsb,Ts hsb,Ae (by rfl),Ae (An (by omega)),Ae (An (by rw[BM];simp only[iN];omega)),Ae (An (by omega)),Ae (An (by rw[Tx];simp only[iN];omega)),Aa hd.1,AH hs,Ts hck,Ts hck] at k;have eG:∀blk:Int,0<=blk/\blk<(n.bs.length:Int)->(Ah n.nx (shG n.bs.length (AF s) s.cl blk (n.ss.getD d.toNat s0).i) blk (n.ss.getD d.toNat s0).i).1=AL n.nx (shP n s blk (n.ss.getD d.toNat s0).i) blk.toNat (n.ss.getD d.toNat s0).i.toNat:=fun blk hb=>I7 hv (KW n s blk _) hb (by omega)
 have eW:∀blk:Int,0<=blk/\blk<(n.bs.length:Int)->(Ah n.nx (shW n.bs.length s.cl blk) blk (n.ss.getD d.toNat s0).i).1=AL n.nx (shQ n s blk) blk.toNat (n.ss.getD d.toNat s0).i.toNat:=fun blk hb=>I7 hv (I8 n s blk) hb (by omega)
 generalize hx:n.ss.getD d.toNat s0=x at *;cases hp:plF n c with
 | none=>
  have hb:=J4 hv hc.1 hc.2 hp;have hR0:Bh n s c d=if AD n s c x.i=[] then none else some ((AD n s c x.i).tail++Ad x 0):=by unfold Bh;rw[hp];simp only[hx]
  have hPl:=Ho hv hrw (s:=s) ⟨hc.1,hb⟩ (goal:=x.i) (by omega);rw[PL hp,Ae (T5.2 (by omega)),Ae (by rfl),Aa ⟨by omega,by omega,by omega⟩,eG c ⟨hc.1,hb⟩,I6] at k;by_cases hP:AL n.nx (shP n s c x.i) c.toNat x.i.toNat=[]
  .have eL:AD n s c x.i=AL n.nx (shQ n s c) c.toNat x.i.toNat:=by unfold AD;rw[Ts hP]
   rw[Ak (Az hP),Aa ⟨by omega,by omega⟩,eW c ⟨hc.1,hb⟩,I6,<-eL] at k;by_cases hQ:AD n s c x.i=[]
   .rw[hR0,Ts hQ];rw[Ak (Az hQ)] at k;exact k ([],_) (.ret _)
   .have hr:Bh n s c d=some ([]++(AD n s c x.i).tail++Ad x 0):=by rw[hR0,Tt hQ];rfl
    have hrg:=hR hr;rw[<-hlc] at hrg;have hlen2:([]++(AD n s c x.i).tail++Ad x 0).length<=1000000:=by simp only[TQ,Ub,List.length_tail,hslt];omega
    rw[Ae (An hQ),Aa (BA _),Aa (by simp only[iN,Tx];have:=List.length_pos_iff.2 hQ;omega),Aa (by omega),Aa (by omega),KJ,Aa hlen2,Aa (Kv _),Aa hrg] at k;rw[hr];exact k ([_],_) (.ret _)
  .have eL:AD n s c x.i=AL n.nx (shP n s c x.i) c.toNat x.i.toNat:=by unfold AD;rw[Tt hP]
   rw[Ae (An hP),<-eL] at k;rw[<-eL] at hP;have hr:Bh n s c d=some ([]++(AD n s c x.i).tail++Ad x 0):=by rw[hR0,Tt hP];rfl
   have hrg:=hR hr;rw[<-hlc] at hrg;have hlen2:([]++(AD n s c x.i).tail++Ad x 0).length<=1000000:=by simp only[TQ,Ub,List.length_tail,hslt];omega
   rw[Aa (BA _),Aa (by simp only[iN,Tx];have:=List.length_pos_iff.2 hP;omega),Aa (by omega),Aa (by omega),KJ,Aa hlen2,Aa (Kv _),Aa hrg] at k;rw[hr];exact k ([_],_) (.ret _)
 | some i=>
  obtain⟨t,ht,hg,h1,h2,hil⟩:=GX hp;have gt:=(hv.goodT _ _ ht).ho;have tb:=hv.sb ht;obtain⟨e1,e2⟩:=PC hp;rw[hg] at e2;have hst:=C1 t (c-t.b+1);rw[e1,e2] at k;by_cases hid:(i:Int)=d
  .have hxt:x=t:=by rw[<-hx,<-hg];congr 1;omega
   have hr:Bh n s c d=some (Ad x (c-t.b+1)):=by unfold Bh;rw[hp];simp only[hg,hxt];rw[Ts hid]
   have hrg:=hR hr;rw[<-hlc] at hrg;rw[Ak (beq_iff_eq.2 hid),Aa ⟨by omega,by omega⟩,Aa (by omega),Aa (by omega),Aa (by rw[hxt];rw[hst];omega),Aa hrg] at k;rw[hr];exact k ([_],_) (.ret _)
  have hR0:Bh n s c d=if AD n s t.o x.i=[] then none else some (Ad t (c-t.b+1)++([t.o]++((AD n s t.o x.i).tail++Ad x 0))):=by unfold Bh;rw[hp];simp only[hx,hg];rw[Tt hid]
  have hPl:=Ho hv hrw (s:=s) (blk:=t.o) (by omega) (goal:=x.i) (by omega);have hto:(0:Int)<=t.o/\t.o<(n.bs.length:Int):=by omega
  rw[Ae (T5.2 hid),Ak (Az (by omega)),Aa (by omega),TD,AH ht,AH ht,Aa ⟨by omega,by omega⟩,Aa (by omega),Aa (by omega),Aa (by simp only[Tx,Ua,Ub,hst];omega),Aa (by simp only[Tx,Ua,Ub,hst];omega),Aa ⟨by omega,by omega,by omega⟩,eG t.o hto,I6] at k;by_cases hP:AL n.nx (shP n s t.o x.i) t.o.toNat x.i.toNat=[]
  .have eL:AD n s t.o x.i=AL n.nx (shQ n s t.o) t.o.toNat x.i.toNat:=by unfold AD;rw[Ts hP]
   rw[Ak (Az hP),Aa ⟨by omega,by omega⟩,eW t.o hto,I6,<-eL] at k;by_cases hQ:AD n s t.o x.i=[]
   .rw[hR0,Ts hQ];rw[Ak (Az hQ)] at k;exact k ([],_) (.ret _)
   .have hr:Bh n s c d=some (Ad t (c-t.b+1)++[t.o]++(AD n s t.o x.i).tail++Ad x 0):=by rw[hR0,Tt hQ];simp only[List.append_assoc]
    have hrg:=hR hr;rw[<-hlc] at hrg;have hlen2:(Ad t (c-t.b+1)++[t.o]++(AD n s t.o x.i).tail++Ad x 0).length<=1000000:=by simp only[TQ,Ua,Ub,List.length_tail,hslt,hst];omega
    rw[Ae (An hQ),Aa (BA _),Aa (by simp only[iN,Tx];have:=List.length_pos_iff.2 hQ;omega),Aa (by omega),Aa (by omega),KJ,Aa hlen2,Aa (Kv _),Aa hrg] at k;rw[hr];exact k ([_],_) (.ret _)
  .have eL:AD n s t.o x.i=AL n.nx (shP n s t.o x.i) t.o.toNat x.i.toNat:=by unfold AD;rw[Tt hP]
   rw[Ae (An hP),<-eL] at k;rw[<-eL] at hP;have hr:Bh n s c d=some (Ad t (c-t.b+1)++[t.o]++(AD n s t.o x.i).tail++Ad x 0):=by rw[hR0,Tt hP];simp only[List.append_assoc]
   have hrg:=hR hr;rw[<-hlc] at hrg;have hlen2:(Ad t (c-t.b+1)++[t.o]++(AD n s t.o x.i).tail++Ad x 0).length<=1000000:=by simp only[TQ,Ua,Ub,List.length_tail,hslt,hst];omega
   rw[Aa (BA _),Aa (by simp only[iN,Tx];have:=List.length_pos_iff.2 hP;omega),Aa (by omega),Aa (by omega),KJ,Aa hlen2,Aa (Kv _),Aa hrg] at k;rw[hr];exact k ([_],_) (.ret _)
theorem leg_y{n:Ab}{s:Ac}{c d:Int}(hrw:Rows n.nx)(h:Bn n s c d=0)(hy:(Bg n s c d).2=true):CT Ux 30 [] [Af n,sgA s,.int .i64 c,.int .i64 d] [some (Blk.mk ((Bg n s c d).1.map (AV.int .i64)) 1 true true none)] (.tup [.sl 0 0 (Bg n s c d).1.length,.bool true,.int .i64 0]):=by obtain⟨hl,hp⟩:=Jo.1 hy;have k:=leg_T hrw h;unfold lrT at k;rw[hl] at k;simp only[Lv hp,hp] at k;exact k
theorem CT.frz2{f:FuncId}{args:List AV}{s:Ac}{l:List Int}{x:Int}(h:CT Ux f [] args [some (Blk.mk (l.map (AV.int .i64)) 1 true true none)] (.tup [.sl 0 0 (rsZ s l l.length),.bool (AW s.cl l),.int .i64 x])):CT Ux f [] args [] (.tup [lI (if AW s.cl l=true then (l,true) else ([],false)).1,.bool (if AW s.cl l=true then (l,true) else ([],false)).2,.int .i64 x]):=by
 cases hp:AW s.cl l with
 | true=>rw[Lv hp,hp] at h;exact CT.frz h (Tx ..).symm
 | false=>rw[rsZ_f hp,hp] at h;exact CT.ren h (Ren.of (st':=⟨1,[(0,.tup [.lst ((l.map (AV.int .i64)).drop 0 |>.take 0),.bool false,.int .i64 x])],[]⟩) [] [0,1000] [0] (p:=(0+0<=(l.map (AV.int .i64)).length/\True/\True/\True)/\True) rfl ⟨⟨TG _,trivial,trivial,trivial⟩,trivial⟩ rfl rfl rfl)
theorem leg_c{n:Ab}(cl:List Bool)(bw pe:List Int)(c d:Int)(hrw:Rows n.nx):CT Ux 30 [] [Af n,sgA ⟨cl,bw,pe⟩,.int .i64 c,.int .i64 d] [] (.tup [lI (De n ⟨cl,bw,pe⟩ c d).1,.bool (De n ⟨cl,bw,pe⟩ c d).2,.int .i64 (Bn n ⟨cl,bw,pe⟩ c d)]):=by
 generalize hs:(⟨cl,bw,pe⟩:Ac)=s;unfold De;by_cases h:Bn n s c d=0
 .rw[Ts h,h];have k:=leg_T hrw h;unfold lrT at k;unfold Bg;cases hr:Bh n s c d with
  | none=>rw[hr] at k;exact CT.w2 (res:=.tup [.nils,.bool false,.int .i64 0]) k
  | some l=>rw[hr] at k;exact CT.frz2 k
 .rw[Tt h];exact CT.w2 (res:=.tup [.nils,.bool false,.int .i64 (Bn n s c d)]) (leg_bad hrw h)
theorem ks_b{n:Ab}(hv:Ax n){s:Ac}(h:A4 n s):Br n s=true:=OU.2 ⟨hv,h⟩
theorem wrD{a:Int}(h1:0<=a)(h2:a<=1000):i64.wrap (a-1)=a-1:=Cq (by omega) (by omega)
end Go.Proofs.Ytedjkebooffjpaa

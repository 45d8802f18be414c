/- Parts of the proof:Rt7p,RtN,RtO,Rt8p,RtP,RtR,RtQ,Rt11p,RtA,Rt13p,RtC,RtD,Rt9p,RtU,Gi1p,GiA,GiB,Rt12p,RtB,GiC,Gi2p,GiD,NmA,Nm2p,NmC,NmD,NmE. -/
import Derived.Test.YtedjkebooffjpaaProg
import Derived.KernelRfl
import Derived.Test.YtedjkebooffjpaaItineraryFollowsM3
noncomputable section
set_option linter.unusedVariables false
set_option linter.unusedSimpArgs false
open Go Go.AX Go.Proofs
set_option maxRecDepth 100000
set_option maxHeartbeats 4000000
set_option linter.unusedVariables false
open Go.IntKind (i64 u64)
namespace Go.Proofs.Ytedjkebooffjpaa
def G2(q:QK):List (Nat×AV):=[(23,lI q.r),(31,lI q.r),(34,.int .i64 q.e),(55,lI q.r),(59,.int .i64 (q.p.getD 0 0))]
def st40(q:QK):St:={n:=Try.f145.ntmps,fr:=[(0,.lst (gL q.g))],hp:=[]}
def IB(q:QK):St:={n:=Try.f145.ntmps,fr:=[(0,.lst (gL q.g)),(3,.int .i64 (iN q.a))],hp:=[]}
def DD(q:QK):St:={n:=Try.f145.ntmps,fr:=[(0,.lst (gL q.g)),(3,.int .i64 (iN q.a)),(4,.int .i64 (iN q.i))],hp:=[]}
def e40(q:QK):List (Nat×AV):=[(18,lI q.r),(26,lI q.r),(29,.int .i64 q.e),(51,lI q.r),(55,.int .i64 (q.p.getD 0 0))]
def st35(q:QK):St:={n:=Try.f134.ntmps,fr:=[(0,.lst (gL q.g)),(1,.lst (boL q.s))],hp:=[]}
def cV(q:QK):Nat->FuncId->List AV->List (Option Blk)->AH:=fun dst f args _=>match f with
 | 145=>.call [] [] [] (.bool q.b)
 | 134=>.call [] [] [] (.int .i64 q.e)
 | _=>.no
theorem cgr_0(q:QK)(h1:(decide (iN q.i<iN q.r.length)=true))(h2:(0<=iN q.a))(h3:((gL q.g)[(iN q.a).toNat]?=some (AV.lst (List.map (iv) q.r))))(h4:(0<=iN q.i))(h5:((List.map (iv) q.r)[(iN q.i).toNat]?=some (iv q.e)))(h6:(decide (q.e<0)=true)){post:Exit->St->Prop}(hP:Bl post (Fin Try.prog Try.f70 0 [] (iv 20))):GoO Try.prog (hU [55,77] (G2 q) (cK q)) 0 (zC (zC (zB Try.f70) 0) 0) (zK (zC (zB Try.f70) 0) 0) (DM q) post:=
 CK (σ:=[]) (fz:=[]) (by kernel_rfl) (aj (al (aj (al t3) (aj h1 (aj (u2 s2) (aj (u2 (u2 (aj (k2 (aj h2 h3)) (u2 (u2 (aj (k2 (aj h4 h5)) (u2 s2))))))) (aj (u2 (u2 (u2 (aj h6 (aj h6 (aj h6 (ag h6 (u2 (k3 (aj t3 (u2 (ak (k3 (k5 (k5 (al t3)))))))))))))))) (ak s2))))))) t2) hP
theorem cgr_1(q:QK)(h1:(decide (iN q.i<iN q.r.length)=true))(h2:(0<=iN q.a))(h3:((gL q.g)[(iN q.a).toNat]?=some (AV.lst (List.map (iv) q.r))))(h4:(0<=iN q.i))(h5:((List.map (iv) q.r)[(iN q.i).toNat]?=some (iv q.e)))(h6:(decide (q.e<0)=false))(h7:(decide (iN q.g.length<=q.e)=true)){post:Exit->St->Prop}(hP:Bl post (Fin Try.prog Try.f70 0 [] (iv 20))):GoO Try.prog (hU [55,76,87] (G2 q) (cK q)) 0 (zC (zC (zB Try.f70) 0) 0) (zK (zC (zB Try.f70) 0) 0) (DM q) post:=
 CK (σ:=[]) (fz:=[]) (by kernel_rfl) (aj (al (aj (al t3) (aj h1 (aj (u2 s2) (aj (u2 (u2 (aj (k2 (aj h2 h3)) (u2 (u2 (aj (k2 (aj h4 h5)) (u2 s2))))))) (aj (u2 (u2 (u2 (ag h6 (ag h6 (aj (aj h6 t3) (ag h6 (u2 (aj h7 (aj h7 (aj h7 (ag h7 (u2 (ak (k3 (k5 (k5 (al t3)))))))))))))))))) (ak s2))))))) t2) hP
theorem cgr_2(q:QK)(h1:(decide (iN q.i<iN q.r.length)=true))(h2:(0<=iN q.a))(h3:((gL q.g)[(iN q.a).toNat]?=some (AV.lst (List.map (iv) q.r))))(h4:(0<=iN q.i))(h5:((List.map (iv) q.r)[(iN q.i).toNat]?=some (iv q.e)))(h6:(decide (q.e<0)=false))(h7:(decide (iN q.g.length<=q.e)=false))(h8:((q.e==iN q.a)=true)){post:Exit->St->Prop}(hP:Bl post (Fin Try.prog Try.f70 0 [] (iv 20))):GoO Try.prog (hU [55,76,86,97] (G2 q) (cK q)) 0 (zC (zC (zB Try.f70) 0) 0) (zK (zC (zB Try.f70) 0) 0) (DM q) post:=
 CK (σ:=[]) (fz:=[]) (by kernel_rfl) (aj (al (aj (al t3) (aj h1 (aj (u2 s2) (aj (u2 (u2 (aj (k2 (aj h2 h3)) (u2 (u2 (aj (k2 (aj h4 h5)) (u2 s2))))))) (aj (u2 (u2 (u2 (ag h6 (ag h6 (aj (aj h6 t3) (ag h6 (u2 (ag h7 (ag h7 (aj (aj h7 t3) (ag h7 (u2 (aj h8 (aj h8 (aj h8 (k5 (k5 (aj h8 (al (aj h8 t2))))))))))))))))))))) (ak s2))))))) t2) hP
theorem cgr_3(q:QK)(h1:(decide (iN q.i<iN q.r.length)=true))(h2:(0<=iN q.a))(h3:((gL q.g)[(iN q.a).toNat]?=some (AV.lst (List.map (iv) q.r))))(h4:(0<=iN q.i))(h5:((List.map (iv) q.r)[(iN q.i).toNat]?=some (iv q.e)))(h6:(decide (q.e<0)=false))(h7:(decide (iN q.g.length<=q.e)=false))(h8:((q.e==iN q.a)=false))(h9:(decide (0<iN q.i)=true))(h10:(0<=i64.wrap (iN q.i-1)))(h11:((List.map (iv) q.r)[(i64.wrap (iN q.i-1)).toNat]?=some (iv (q.p.getD 0 0))))(h12:(decide (q.e<=q.p.getD 0 0)=true)){post:Exit->St->Prop}(hP:Bl post (Fin Try.prog Try.f70 0 [] (iv 20))):GoO Try.prog (hU [55,76,86,96,103,127] (G2 q) (cK q)) 0 (zC (zC (zB Try.f70) 0) 0) (zK (zC (zB Try.f70) 0) 0) (DM q) post:=
 CK (σ:=[]) (fz:=[]) (by kernel_rfl) (aj (al (aj (al t3) (aj h1 (aj (u2 s2) (aj (u2 (u2 (aj (k2 (aj h2 h3)) (u2 (u2 (aj (k2 (aj h4 h5)) (u2 s2))))))) (aj (u2 (u2 (u2 (ag h6 (ag h6 (aj (aj h6 t3) (ag h6 (u2 (ag h7 (ag h7 (aj (aj h7 t3) (ag h7 (u2 (ag h8 (ag h8 (ag h8 (ag h9 (ag h9 (ag h9 (aj (aj h9 (k2 (aj h2 h3))) (ag h9 (ag h9 (ag h9 (aj (aj h9 (k2 (aj h10 h11))) (ag h9 (aj (aj h9 t3) (aj (aj h8 (aj h9 t2)) (al (aj h8 t2))))))))))))))))))))))))))))) (aj h12 s2))))))) t2) hP
theorem cgr_4(q:QK)(h1:(decide (iN q.i<iN q.r.length)=true))(h2:(0<=iN q.a))(h3:((gL q.g)[(iN q.a).toNat]?=some (AV.lst (List.map (iv) q.r))))(h4:(0<=iN q.i))(h5:((List.map (iv) q.r)[(iN q.i).toNat]?=some (iv q.e)))(h6:(decide (q.e<0)=false))(h7:(decide (iN q.g.length<=q.e)=false))(h8:((q.e==iN q.a)=false))(h9:(decide (0<iN q.i)=true))(h10:(0<=i64.wrap (iN q.i-1)))(h11:((List.map (iv) q.r)[(i64.wrap (iN q.i-1)).toNat]?=some (iv (q.p.getD 0 0))))(h12:(decide (q.e<=q.p.getD 0 0)=false)){post:Exit->St->Prop}{R:St->Prop}(hR:∀st,Ren 0 st (St.mk 88 [(0,AV.lst (gL q.g)),(1,AV.lst (boL q.s)),(2,iv q.x),(3,iv q.y),(9,iv (iN q.g.length)),(10,iv (iN q.a)),(17,iv (iN q.g.length)),(18,iv (iN q.a)),(25,iv (iN q.r.length)),(26,iv (i64.wrap (iN q.i+1)))] [])->R st):GoP Try.prog (hU [55,76,86,96,103,126] (G2 q) (cK q)) 0 (zC (zC (zB Try.f70) 0) 0) (DM q) (andThen R post):=
 zN (σ:=[]) (fz:=[]) (vars:=[0,1,2,3,9,10,17,18,25,26]) (by kernel_rfl) (aj (aj (al t3) (aj h1 (aj (u2 s2) (aj (u2 (u2 (aj (k2 (aj h2 h3)) (u2 (u2 (aj (k2 (aj h4 h5)) (u2 s2))))))) (aj (u2 (u2 (u2 (ag h6 (ag h6 (aj (aj h6 t3) (ag h6 (u2 (ag h7 (ag h7 (aj (aj h7 t3) (ag h7 (u2 (ag h8 (ag h8 (ag h8 (ag h9 (ag h9 (ag h9 (aj (aj h9 (k2 (aj h2 h3))) (ag h9 (ag h9 (ag h9 (aj (aj h9 (k2 (aj h10 h11))) (ag h9 (aj (aj h9 t3) (aj (aj h8 (aj h9 t2)) (al (aj h8 t2))))))))))))))))))))))))))))) (aj h12 (al (u2 s2)))))))) (k2 t9)) hR
theorem cgr_5(q:QK)(h1:(decide (iN q.i<iN q.r.length)=true))(h2:(0<=iN q.a))(h3:((gL q.g)[(iN q.a).toNat]?=some (AV.lst (List.map (iv) q.r))))(h4:(0<=iN q.i))(h5:((List.map (iv) q.r)[(iN q.i).toNat]?=some (iv q.e)))(h6:(decide (q.e<0)=false))(h7:(decide (iN q.g.length<=q.e)=false))(h8:((q.e==iN q.a)=false))(h9:(decide (0<iN q.i)=false)){post:Exit->St->Prop}{R:St->Prop}(hR:∀st,Ren 0 st (St.mk 88 [(0,AV.lst (gL q.g)),(1,AV.lst (boL q.s)),(2,iv q.x),(3,iv q.y),(9,iv (iN q.g.length)),(10,iv (iN q.a)),(17,iv (iN q.g.length)),(18,iv (iN q.a)),(25,iv (iN q.r.length)),(26,iv (i64.wrap (iN q.i+1)))] [])->R st):GoP Try.prog (hU [55,76,86,96,102] (G2 q) (cK q)) 0 (zC (zC (zB Try.f70) 0) 0) (DM q) (andThen R post):=
 zN (σ:=[]) (fz:=[]) (vars:=[0,1,2,3,9,10,17,18,25,26]) (by kernel_rfl) (aj (aj (al t3) (aj h1 (aj (u2 s2) (aj (u2 (u2 (aj (k2 (aj h2 h3)) (u2 (u2 (aj (k2 (aj h4 h5)) (u2 s2))))))) (aj (u2 (u2 (u2 (ag h6 (ag h6 (aj (aj h6 t3) (ag h6 (u2 (ag h7 (ag h7 (aj (aj h7 t3) (ag h7 (u2 (ag h8 (ag h8 (ag h8 (aj h9 (aj h9 (aj h9 (aj h9 (aj h9 (aj h9 (aj h9 (aj h9 (aj h9 (aj h9 (aj (aj h8 (aj h9 t2)) (al (aj h8 t2))))))))))))))))))))))))))))) (ak (al (u2 s2)))))))) (k2 t9)) hR
theorem va_0(q:QK)(h1:(decide (24<iN (gL q.g).length)=true)):GoP Try.prog (hU [17] (e40 q) (cV q)) 0 (zB Try.f145) (st40 q) (Fin Try.prog Try.f145 0 [] (AV.bool false)):=
 zF (σ:=[]) (fz:=[]) (by kernel_rfl) (aj (u2 (aj (u2 (u2 s2)) (aj h1 s2))) t2)
theorem va_1(q:QK)(h1:(decide (24<iN (gL q.g).length)=false)){post:Exit->St->Prop}(ht:T Try.prog 0 (.loop (zC (zB Try.f145) 0)) (St.mk 60 [(0,AV.lst (gL q.g)),(3,iv 0)] []) (TK Try.prog 0 post (zK (zB Try.f145) 0))):GoP Try.prog (hU [16] (e40 q) (cV q)) 0 (zB Try.f145) (st40 q) post:=
 zR (σ:=[]) (fz:=[]) (vars:=[0,3]) (by kernel_rfl) (aj (u2 (aj (u2 (u2 s2)) (aj h1 s2))) t3) ht
theorem vax_0(q:QK)(h1:(decide (iN q.a<iN (gL q.g).length)=false)):GoO Try.prog (hU [24] (e40 q) (cV q)) 0 (zC (zB Try.f145) 0) (zK (zB Try.f145) 0) (IB q) (Fin Try.prog Try.f145 0 [] (AV.bool true)):=
 zF (σ:=[]) (fz:=[]) (by kernel_rfl) (aj (aj (aj (u2 (u2 (u2 (al t3)))) (al h1)) s2) t2)
theorem vai_0(q:QK)(h1:(decide (iN q.a<iN (gL q.g).length)=true)){post:Exit->St->Prop}(ht:T Try.prog 0 (.loop (zC (zC (zB Try.f145) 0) 0)) (St.mk 60 [(0,AV.lst (gL q.g)),(3,iv (iN q.a)),(4,iv 0)] []) (TK Try.prog 0 post (zK (zC (zB Try.f145) 0) 0))):GoP Try.prog (hU [25] (e40 q) (cV q)) 0 (zC (zB Try.f145) 0) (IB q) post:=
 zR (σ:=[]) (fz:=[]) (vars:=[0,3,4]) (by kernel_rfl) (aj (aj (u2 (u2 (u2 (al t3)))) (aj h1 s2)) t4) ht
theorem vbx_0(q:QK)(h1:(0<=iN q.a))(h2:((gL q.g)[(iN q.a).toNat]?=some (AV.lst (List.map (iv) q.r))))(h3:(decide (iN q.i<iN (List.map (iv) q.r).length)=false)){post:Exit->St->Prop}{R:St->Prop}(hR:∀st,Ren 0 st (St.mk 60 [(0,AV.lst (gL q.g)),(3,iv (i64.wrap (iN q.a+1)))] [])->R st):GoO Try.prog (hU [42] (e40 q) (cV q)) 0 (zC (zC (zB Try.f145) 0) 0) (zK (zC (zB Try.f145) 0) 0) (DD q) (andThen R post):=
 zN (σ:=[]) (fz:=[]) (vars:=[0,3]) (by kernel_rfl) (aj (aj (aj (u2 (u2 (u2 (aj (k2 (aj h1 h2)) (u2 (u2 (al t3))))))) (al h3)) (al (u2 (u2 s2)))) t3) hR
theorem vbr_0(q:QK)(h1:(0<=iN q.a))(h2:((gL q.g)[(iN q.a).toNat]?=some (AV.lst (List.map (iv) q.r))))(h3:(decide (iN q.i<iN (List.map (iv) q.r).length)=true))(h4:(0<=iN q.i))(h5:((List.map (iv) q.r)[(iN q.i).toNat]?=some (iv q.e)))(h6:(decide (q.e<0)=true)){post:Exit->St->Prop}(hP:Bl post (Fin Try.prog Try.f145 0 [] (AV.bool false))):GoO Try.prog (hU [43,67] (e40 q) (cV q)) 0 (zC (zC (zB Try.f145) 0) 0) (zK (zC (zB Try.f145) 0) 0) (DD q) post:=
 CK (σ:=[]) (fz:=[]) (by kernel_rfl) (aj (al (aj (u2 (u2 (u2 (aj (k2 (aj h1 h2)) (u2 (u2 (al t3))))))) (aj h3 (aj (u2 (u2 (aj (k2 (aj h1 h2)) (u2 (u2 (aj (k2 (aj h4 h5)) (u2 s2))))))) (aj (u2 (u2 (u2 (aj h6 (aj h6 (aj h6 (aj h6 (ag h6 (u2 (k3 (aj t3 (u2 (ak (k3 (k5 (k5 (al t3))))))))))))))))) (ak s2)))))) t2) hP
theorem vbr_1(q:QK)(h1:(0<=iN q.a))(h2:((gL q.g)[(iN q.a).toNat]?=some (AV.lst (List.map (iv) q.r))))(h3:(decide (iN q.i<iN (List.map (iv) q.r).length)=true))(h4:(0<=iN q.i))(h5:((List.map (iv) q.r)[(iN q.i).toNat]?=some (iv q.e)))(h6:(decide (q.e<0)=false))(h7:(decide (iN (gL q.g).length<=q.e)=true)){post:Exit->St->Prop}(hP:Bl post (Fin Try.prog Try.f145 0 [] (AV.bool false))):GoO Try.prog (hU [43,66,79] (e40 q) (cV q)) 0 (zC (zC (zB Try.f145) 0) 0) (zK (zC (zB Try.f145) 0) 0) (DD q) post:=
 CK (σ:=[]) (fz:=[]) (by kernel_rfl) (aj (al (aj (u2 (u2 (u2 (aj (k2 (aj h1 h2)) (u2 (u2 (al t3))))))) (aj h3 (aj (u2 (u2 (aj (k2 (aj h1 h2)) (u2 (u2 (aj (k2 (aj h4 h5)) (u2 s2))))))) (aj (u2 (u2 (u2 (ag h6 (ag h6 (ag h6 (aj (aj h6 t3) (ag h6 (u2 (aj h7 (aj h7 (aj h7 (ag h7 (u2 (ak (k3 (k5 (k5 (al t3))))))))))))))))))) (ak s2)))))) t2) hP
theorem vbr_2(q:QK)(h1:(0<=iN q.a))(h2:((gL q.g)[(iN q.a).toNat]?=some (AV.lst (List.map (iv) q.r))))(h3:(decide (iN q.i<iN (List.map (iv) q.r).length)=true))(h4:(0<=iN q.i))(h5:((List.map (iv) q.r)[(iN q.i).toNat]?=some (iv q.e)))(h6:(decide (q.e<0)=false))(h7:(decide (iN (gL q.g).length<=q.e)=false))(h8:((q.e==iN q.a)=true)){post:Exit->St->Prop}(hP:Bl post (Fin Try.prog Try.f145 0 [] (AV.bool false))):GoO Try.prog (hU [43,66,78,89] (e40 q) (cV q)) 0 (zC (zC (zB Try.f145) 0) 0) (zK (zC (zB Try.f145) 0) 0) (DD q) post:=
 CK (σ:=[]) (fz:=[]) (by kernel_rfl) (aj (al (aj (u2 (u2 (u2 (aj (k2 (aj h1 h2)) (u2 (u2 (al t3))))))) (aj h3 (aj (u2 (u2 (aj (k2 (aj h1 h2)) (u2 (u2 (aj (k2 (aj h4 h5)) (u2 s2))))))) (aj (u2 (u2 (u2 (ag h6 (ag h6 (ag h6 (aj (aj h6 t3) (ag h6 (u2 (ag h7 (ag h7 (aj (aj h7 t3) (ag h7 (u2 (aj h8 (aj h8 (aj h8 (k5 (k5 (aj h8 (al (aj h8 t2)))))))))))))))))))))) (ak s2)))))) t2) hP
theorem vbr_3(q:QK)(h1:(0<=iN q.a))(h2:((gL q.g)[(iN q.a).toNat]?=some (AV.lst (List.map (iv) q.r))))(h3:(decide (iN q.i<iN (List.map (iv) q.r).length)=true))(h4:(0<=iN q.i))(h5:((List.map (iv) q.r)[(iN q.i).toNat]?=some (iv q.e)))(h6:(decide (q.e<0)=false))(h7:(decide (iN (gL q.g).length<=q.e)=false))(h8:((q.e==iN q.a)=false))(h9:(decide (0<iN q.i)=true))(h10:(0<=i64.wrap (iN q.i-1)))(h11:((List.map (iv) q.r)[(i64.wrap (iN q.i-1)).toNat]?=some (iv (q.p.getD 0 0))))(h12:(decide (q.e<=q.p.getD 0 0)=true)){post:Exit->St->Prop}(hP:Bl post (Fin Try.prog Try.f145 0 [] (AV.bool false))):GoO Try.prog (hU [43,66,78,88,95,119] (e40 q) (cV q)) 0 (zC (zC (zB Try.f145) 0) 0) (zK (zC (zB Try.f145) 0) 0) (DD q) post:=
 CK (σ:=[]) (fz:=[]) (by kernel_rfl) (aj (al (aj (u2 (u2 (u2 (aj (k2 (aj h1 h2)) (u2 (u2 (al t3))))))) (aj h3 (aj (u2 (u2 (aj (k2 (aj h1 h2)) (u2 (u2 (aj (k2 (aj h4 h5)) (u2 s2))))))) (aj (u2 (u2 (u2 (ag h6 (ag h6 (ag h6 (aj (aj h6 t3) (ag h6 (u2 (ag h7 (ag h7 (aj (aj h7 t3) (ag h7 (u2 (ag h8 (ag h8 (ag h8 (ag h9 (ag h9 (ag h9 (aj (aj h9 (k2 (aj h1 h2))) (ag h9 (ag h9 (ag h9 (aj (aj h9 (k2 (aj h10 h11))) (ag h9 (aj (aj h9 t3) (aj (aj h8 (aj h9 t2)) (al (aj h8 t2)))))))))))))))))))))))))))))) (aj h12 s2)))))) t2) hP
theorem vbr_4(q:QK)(h1:(0<=iN q.a))(h2:((gL q.g)[(iN q.a).toNat]?=some (AV.lst (List.map (iv) q.r))))(h3:(decide (iN q.i<iN (List.map (iv) q.r).length)=true))(h4:(0<=iN q.i))(h5:((List.map (iv) q.r)[(iN q.i).toNat]?=some (iv q.e)))(h6:(decide (q.e<0)=false))(h7:(decide (iN (gL q.g).length<=q.e)=false))(h8:((q.e==iN q.a)=false))(h9:(decide (0<iN q.i)=true))(h10:(0<=i64.wrap (iN q.i-1)))(h11:((List.map (iv) q.r)[(i64.wrap (iN q.i-1)).toNat]?=some (iv (q.p.getD 0 0))))(h12:(decide (q.e<=q.p.getD 0 0)=false)){post:Exit->St->Prop}{R:St->Prop}(hR:∀st,Ren 0 st (St.mk 60 [(0,AV.lst (gL q.g)),(3,iv (iN q.a)),(4,iv (i64.wrap (iN q.i+1)))] [])->R st):GoP Try.prog (hU [43,66,78,88,95,118] (e40 q) (cV q)) 0 (zC (zC (zB Try.f145) 0) 0) (DD q) (andThen R post):=
 zN (σ:=[]) (fz:=[]) (vars:=[0,3,4]) (by kernel_rfl) (aj (aj (u2 (u2 (u2 (aj (k2 (aj h1 h2)) (u2 (u2 (al t3))))))) (aj h3 (aj (u2 (u2 (aj (k2 (aj h1 h2)) (u2 (u2 (aj (k2 (aj h4 h5)) (u2 s2))))))) (aj (u2 (u2 (u2 (ag h6 (ag h6 (ag h6 (aj (aj h6 t3) (ag h6 (u2 (ag h7 (ag h7 (aj (aj h7 t3) (ag h7 (u2 (ag h8 (ag h8 (ag h8 (ag h9 (ag h9 (ag h9 (aj (aj h9 (k2 (aj h1 h2))) (ag h9 (ag h9 (ag h9 (aj (aj h9 (k2 (aj h10 h11))) (ag h9 (aj (aj h9 t3) (aj (aj h8 (aj h9 t2)) (al (aj h8 t2)))))))))))))))))))))))))))))) (aj h12 (al (u2 (u2 s2)))))))) t4) hR
theorem vbr_5(q:QK)(h1:(0<=iN q.a))(h2:((gL q.g)[(iN q.a).toNat]?=some (AV.lst (List.map (iv) q.r))))(h3:(decide (iN q.i<iN (List.map (iv) q.r).length)=true))(h4:(0<=iN q.i))(h5:((List.map (iv) q.r)[(iN q.i).toNat]?=some (iv q.e)))(h6:(decide (q.e<0)=false))(h7:(decide (iN (gL q.g).length<=q.e)=false))(h8:((q.e==iN q.a)=false))(h9:(decide (0<iN q.i)=false)){post:Exit->St->Prop}{R:St->Prop}(hR:∀st,Ren 0 st (St.mk 60 [(0,AV.lst (gL q.g)),(3,iv (iN q.a)),(4,iv (i64.wrap (iN q.i+1)))] [])->R st):GoP Try.prog (hU [43,66,78,88,94] (e40 q) (cV q)) 0 (zC (zC (zB Try.f145) 0) 0) (DD q) (andThen R post):=
 zN (σ:=[]) (fz:=[]) (vars:=[0,3,4]) (by kernel_rfl) (aj (aj (u2 (u2 (u2 (aj (k2 (aj h1 h2)) (u2 (u2 (al t3))))))) (aj h3 (aj (u2 (u2 (aj (k2 (aj h1 h2)) (u2 (u2 (aj (k2 (aj h4 h5)) (u2 s2))))))) (aj (u2 (u2 (u2 (ag h6 (ag h6 (ag h6 (aj (aj h6 t3) (ag h6 (u2 (ag h7 (ag h7 (aj (aj h7 t3) (ag h7 (u2 (ag h8 (ag h8 (ag h8 (aj h9 (aj h9 (aj h9 (aj h9 (aj h9 (aj h9 (aj h9 (aj h9 (aj h9 (aj h9 (aj (aj h8 (aj h9 t2)) (al (aj h8 t2)))))))))))))))))))))))))))))) (ak (al (u2 (u2 s2)))))))) t4) hR
theorem vc_0(q:QK)(h1:(CT Try.prog 145 [] [AV.lst (gL q.g)] [] (AV.bool q.b)))(h2:((!q.b)=true)):GoP Try.prog (hU [15] (eK q) (cV q)) 0 (zB Try.f134) (st35 q) (Fin Try.prog Try.f134 0 [] (iv 20)):=
 zF (σ:=[]) (fz:=[]) (by kernel_rfl) (aj (u2 (aj (u2 (aj (k2 (al h1)) s2)) (aj h2 s2))) t2)
theorem vc_1(q:QK)(h1:(CT Try.prog 145 [] [AV.lst (gL q.g)] [] (AV.bool q.b)))(h2:((!q.b)=false))(h3:((iN (boL q.s).length != iN (gL q.g).length)=true)):GoP Try.prog (hU [14,25] (eK q) (cV q)) 0 (zB Try.f134) (st35 q) (Fin Try.prog Try.f134 0 [] (iv 19)):=
 zF (σ:=[]) (fz:=[]) (by kernel_rfl) (aj (u2 (aj (u2 (aj (k2 (al h1)) s2)) (aj h2 (aj (u2 (u2 (u2 (u2 (al t3))))) (aj h3 s2))))) t2)
theorem vc_2(q:QK)(h1:(CT Try.prog 145 [] [AV.lst (gL q.g)] [] (AV.bool q.b)))(h2:((!q.b)=false))(h3:((iN (boL q.s).length != iN (gL q.g).length)=false)):GoP Try.prog (hU [14,24] (eK q) (cV q)) 0 (zB Try.f134) (st35 q) (Fin Try.prog Try.f134 0 [] (iv 0)):=
 zF (σ:=[]) (fz:=[]) (by kernel_rfl) (aj (u2 (aj (u2 (aj (k2 (al h1)) s2)) (aj h2 (aj (u2 (u2 (u2 (u2 (al t3))))) (aj h3 s2))))) t2)
end Go.Proofs.Ytedjkebooffjpaa
set_option linter.unusedSimpArgs false
namespace Go.Proofs.Ytedjkebooffjpaa
def AI(r:List Int)(n v i:Nat):Bool:=decide (r.getD i 0<0)||(decide ((n:Int)<=r.getD i 0)||(r.getD i 0==(v:Int)||(decide (0<i)&&decide (r.getD i 0<=r.getD (i-1) 0))))
def Cw(g:List (List Int))(v:Nat):Bool:=(fnd (AI (g.getD v []) g.length v) 0 (g.getD v []).length).isSome
def Da(g:List (List Int)):Bool:=(fnd (Cw g) 0 g.length).isSome
def C2(g:List (List Int))(s:List Bool)(v w:Int):Int:=if 24<g.length then 20 else if Da g=true then 20 else if s.length≠g.length\/v<0\/(g.length:Int)<=v\/w<0\/(g.length:Int)<=w then 19 else 0
def Rows(g:List (List Int)):Prop:=∀v,v<g.length->(g.getD v []).length<=9223372036854775807
def qv(g:List (List Int))(s:List Bool)(v w:Int)(a i:Nat)(r:List Int)(e p:Int):QK:=⟨g,s,[],0,0,a,i,r,v,w,false,e,[p],[]⟩
theorem cg_run{g:List (List Int)}{s:List Bool}(hrw:Rows g)(hn:g.length<=24)(v w:Int)(a:Nat)(ha:a<g.length){R:St->Prop}{post:Exit->St->Prop}
  (hy:Cw g a=true->Bl post (Fin Try.prog Try.f70 0 [] (.int .i64 20)))
  (hR:Cw g a=false->∀st,Ren 0 st (Eu (qk g s v w (a+1) 0 []))->R st):
  T Try.prog 0 (.loop (zC (zC (zB Try.f70) 0) 0)) (DM (qk g s v w a 0 (g.getD a []))) (TK Try.prog 0 (andThen R post) (zK (zC (zB Try.f70) 0) 0)):=by
 have hr1:=hrw a ha
 have hrow:=CQ ha
 unfold Cw at hy hR
 generalize g.getD a []=r at hr1 hrow hy hR
 generalize hrr:fnd (AI r g.length a) 0 r.length=res at hy hR
 refine T.loop (fun i:Nat=>DM (qk g s v w a i r)) (fun i=>i<=r.length/\fnd (AI r g.length a) i (r.length-i)=res) (fun i=>r.length+1-i) 0 ⟨SK _,hrr⟩ ?_
 rintro i ⟨hi,hf⟩
 by_cases h:i<r.length
 .rw[CN h] at hf
  have hg1:=Bp h
  have dk:decide (iN i<iN r.length)=true:=SE (by simp only[iN];omega)
  have found:AI r g.length a i=true->Bl (andThen R post) (Fin Try.prog Try.f70 0 [] (.int .i64 20)):=by
   intro hb
   simp only[hb] at hf
   subst hf
   exact hy rfl
  have next:AI r g.length a i=false->∀st,Ren 0 st (DM (qk g s v w a (i+1) r))->∃j,Ren 0 st (DM (qk g s v w a j r))/\(j<=r.length/\fnd (AI r g.length a) j (r.length-j)=res)/\r.length+1-j<r.length+1-i:=by
   intro hb st hst
   simp only[hb] at hf
   exact⟨i+1,hst,⟨h,hf⟩,by omega⟩
  have wi:i64.wrap (iN i+1)=((i+1:Nat):Int):=zW i (by omega)
  by_cases b1:r.getD i 0<0
  .exact T.out mix (cgr_0 (qv g s v w a i r (r.getD i 0) 0) dk (by simp[iN]) hrow (by simp[iN]) hg1 (SE b1) (found (by unfold AI;rw[SE b1];simp)))
  .by_cases b2:(g.length:Int)<=r.getD i 0
   .exact T.out mix (cgr_1 (qv g s v w a i r (r.getD i 0) 0) dk (by simp[iN]) hrow (by simp[iN]) hg1 (SD b1) (SE b2) (found (by unfold AI;rw[SE b2];simp)))
   .by_cases b3:(r.getD i 0==(a:Int))=true
    .exact T.out mix (cgr_2 (qv g s v w a i r (r.getD i 0) 0) dk (by simp[iN]) hrow (by simp[iN]) hg1 (SD b1) (SD b2) b3 (found (by unfold AI;rw[b3];simp)))
    .have b3':=Tk.2 b3
     by_cases b4:0<i
     .have hw:=E5 i b4 (by omega)
      have hp:=Bp (l:=r) (j:=i-1) (by omega)
      by_cases b5:r.getD i 0<=r.getD (i-1) 0
      .exact T.out mix (cgr_3 (qv g s v w a i r (r.getD i 0) (r.getD (i-1) 0)) dk (by simp[iN]) hrow (by simp[iN]) hg1 (SD b1) (SD b2) b3' (SE (by simp only[iN,qv];omega)) (by simp only[iN,qv,hw];omega) (by simp only[iN,qv,hw,SH];exact hp) (SE b5) (found (by unfold AI;rw[SE b4,SE b5];simp)))
      .refine T.path mix (cgr_4 (qv g s v w a i r (r.getD i 0) (r.getD (i-1) 0)) dk (by simp[iN]) hrow (by simp[iN]) hg1 (SD b1) (SD b2) b3' (SE (by simp only[iN,qv];omega)) (by simp only[iN,qv,hw];omega) (by simp only[iN,qv,hw,SH];exact hp) (SD b5) ?_)
       intro st hst
       simp only[qv,wi] at hst
       exact next (by unfold AI;rw[SD b1,SD b2,b3',SD b5];simp) st hst
     .refine T.path mix (cgr_5 (qv g s v w a i r (r.getD i 0) 0) dk (by simp[iN]) hrow (by simp[iN]) hg1 (SD b1) (SD b2) b3' (SD (by simp only[iN,qv];omega)) ?_)
      intro st hst
      simp only[qv,wi] at hst
      exact next (by unfold AI;rw[SD b1,SD b2,b3',SD b4];simp) st hst
 .rw[C5 h] at hf
  subst hf
  refine T.out mix (ckbx_0 (qk g s v w a i r) (SD (by simp only[iN,qk];omega)) ?_)
  intro st hst
  simp only[iN,qk,zW a (show a<9223372036854775807 by omega)] at hst
  exact hR rfl st hst
theorem QI{g:List (List Int)}{s:List Bool}(hrw:Rows g)(v w:Int):CT Try.prog 70 [] [.lst (gL g),.lst (boL s),.int .i64 v,.int .i64 w] [] (.int .i64 (C2 g s v w)):=by
 have hl:=BJ g
 have hbl:=Ct s
 unfold C2
 by_cases h24:24<g.length
 .rw[Sw h24]
  exact CT.path mix Try.func70 (show Try.f70.body=some (zB Try.f70) by kernel_rfl) (nL rfl) (ckb_0 (qk g s v w 0 0 []) (SE (by simp only[iN,qk,hl];omega)))
 rw[Sx h24]
 refine CT.path mix Try.func70 (show Try.f70.body=some (zB Try.f70) by kernel_rfl) (nL rfl) (ck_0 (qk g s v w 0 0 []) (SD (by simp only[iN,qk,hl];omega)) ?_)
 simp only[qk,hl]
 unfold Da
 generalize hrr:fnd (Cw g) 0 g.length=res
 refine T.loop (fun a:Nat=>Eu (qk g s v w a 0 [])) (fun a=>a<=g.length/\fnd (Cw g) a (g.length-a)=res) (fun a=>g.length+1-a) 0 ⟨SK _,hrr⟩ ?_
 rintro a ⟨ha,hf⟩
 by_cases h:a<g.length
 .rw[CN h] at hf
  refine T.path mix (cka_0 (qk g s v w a 0 (g.getD a [])) (SE (by simp only[iN,qk];omega)) (by simp[iN]) (CQ h) ?_)
  simp only[qk,BW]
  refine cg_run hrw (by omega) v w a h (fun hb=>?_) (fun hb st hst=>?_)
  .simp only[hb] at hf
   subst hf
   exact fun st hst=>TK.ret hst _
  .simp only[hb] at hf
   exact⟨a+1,hst,⟨h,hf⟩,by omega⟩
 .rw[C5 h] at hf
  subst hf
  have da:decide (iN a<iN g.length)=false:=SD (by simp only[iN];omega)
  simp only[Option.isSome_none,Bool.false_eq_true,if_false]
  by_cases c1:s.length=g.length
  .have e1:(iN (boL s).length != iN g.length)=false:=by simp[iN,hbl,c1]
   by_cases c2:v<0
   .rw[Sw (.inr (.inl c2))]
    exact T.out mix (ckx_1 (qk g s v w a 0 []) da e1 (SE c2))
   .by_cases c3:(g.length:Int)<=v
    .rw[Sw (.inr (.inr (.inl c3)))]
     exact T.out mix (ckx_2 (qk g s v w a 0 []) da e1 (SD c2) (SE c3))
    .by_cases c4:w<0
     .rw[Sw (.inr (.inr (.inr (.inl c4))))]
      exact T.out mix (ckx_3 (qk g s v w a 0 []) da e1 (SD c2) (SD c3) (SE c4))
     .by_cases c5:(g.length:Int)<=w
      .rw[Sw (.inr (.inr (.inr (.inr c5))))]
       exact T.out mix (ckx_4 (qk g s v w a 0 []) da e1 (SD c2) (SD c3) (SD c4) (SE c5))
      .rw[Sx (by rintro(h | h | h | h | h)<;>first | exact h c1 | exact c2 h | exact c3 h | exact c4 h | exact c5 h)]
       exact T.out mix (ckx_5 (qk g s v w a 0 []) da e1 (SD c2) (SD c3) (SD c4) (SD c5))
  .rw[Sw (.inl c1)]
   exact T.out mix (ckx_0 (qk g s v w a 0 []) da (by simp only[iN,qk,hbl,Tl,ne_eq];omega))
theorem vb_run{g:List (List Int)}(hrw:Rows g)(hn:g.length<=24)(a:Nat)(ha:a<g.length){R:St->Prop}{post:Exit->St->Prop}
  (hy:Cw g a=true->Bl post (Fin Try.prog Try.f145 0 [] (.bool false)))
  (hR:Cw g a=false->∀st,Ren 0 st (IB (qv g [] 0 0 (a+1) 0 [] 0 0))->R st):
  T Try.prog 0 (.loop (zC (zC (zB Try.f145) 0) 0)) (DD (qv g [] 0 0 a 0 (g.getD a []) 0 0)) (TK Try.prog 0 (andThen R post) (zK (zC (zB Try.f145) 0) 0)):=by
 have hr1:=hrw a ha
 have hrow:=CQ ha
 have hl:=BJ g
 unfold Cw at hy hR
 generalize g.getD a []=r at hr1 hrow hy hR
 have hrl:=BW r
 generalize hrr:fnd (AI r g.length a) 0 r.length=res at hy hR
 refine T.loop (fun i:Nat=>DD (qv g [] 0 0 a i r 0 0)) (fun i=>i<=r.length/\fnd (AI r g.length a) i (r.length-i)=res) (fun i=>r.length+1-i) 0 ⟨SK _,hrr⟩ ?_
 rintro i ⟨hi,hf⟩
 by_cases h:i<r.length
 .rw[CN h] at hf
  have hg1:=Bp h
  have dk:decide (iN i<iN (r.map (AV.int .i64)).length)=true:=SE (by simp only[iN,hrl];omega)
  have found:AI r g.length a i=true->Bl (andThen R post) (Fin Try.prog Try.f145 0 [] (.bool false)):=by
   intro hb
   simp only[hb] at hf
   subst hf
   exact hy rfl
  have next:AI r g.length a i=false->∀st,Ren 0 st (DD (qv g [] 0 0 a (i+1) r 0 0))->∃j,Ren 0 st (DD (qv g [] 0 0 a j r 0 0))/\(j<=r.length/\fnd (AI r g.length a) j (r.length-j)=res)/\r.length+1-j<r.length+1-i:=by
   intro hb st hst
   simp only[hb] at hf
   exact⟨i+1,hst,⟨h,hf⟩,by omega⟩
  have wi:i64.wrap (iN i+1)=((i+1:Nat):Int):=zW i (by omega)
  by_cases b1:r.getD i 0<0
  .exact T.out mix (vbr_0 (qv g [] 0 0 a i r (r.getD i 0) 0) (by simp[iN]) hrow dk (by simp[iN]) hg1 (SE b1) (found (by unfold AI;rw[SE b1];simp)))
  .by_cases b2:(g.length:Int)<=r.getD i 0
   .exact T.out mix (vbr_1 (qv g [] 0 0 a i r (r.getD i 0) 0) (by simp[iN]) hrow dk (by simp[iN]) hg1 (SD b1) (SE (by simp only[iN,qv,hl];exact b2)) (found (by unfold AI;rw[SE b2];simp)))
   .by_cases b3:(r.getD i 0==(a:Int))=true
    .exact T.out mix (vbr_2 (qv g [] 0 0 a i r (r.getD i 0) 0) (by simp[iN]) hrow dk (by simp[iN]) hg1 (SD b1) (SD (by simp only[iN,qv,hl];exact b2)) b3 (found (by unfold AI;rw[b3];simp)))
    .have b3':=Tk.2 b3
     by_cases b4:0<i
     .have hw:=E5 i b4 (by omega)
      have hp:=Bp (l:=r) (j:=i-1) (by omega)
      by_cases b5:r.getD i 0<=r.getD (i-1) 0
      .exact T.out mix (vbr_3 (qv g [] 0 0 a i r (r.getD i 0) (r.getD (i-1) 0)) (by simp[iN]) hrow dk (by simp[iN]) hg1 (SD b1) (SD (by simp only[iN,qv,hl];exact b2)) b3' (SE (by simp only[iN,qv];omega)) (by simp only[iN,qv,hw];omega) (by simp only[iN,qv,hw,SH];exact hp) (SE b5) (found (by unfold AI;rw[SE b4,SE b5];simp)))
      .refine T.path mix (vbr_4 (qv g [] 0 0 a i r (r.getD i 0) (r.getD (i-1) 0)) (by simp[iN]) hrow dk (by simp[iN]) hg1 (SD b1) (SD (by simp only[iN,qv,hl];exact b2)) b3' (SE (by simp only[iN,qv];omega)) (by simp only[iN,qv,hw];omega) (by simp only[iN,qv,hw,SH];exact hp) (SD b5) ?_)
       intro st hst
       simp only[qv,wi] at hst
       exact next (by unfold AI;rw[SD b1,SD b2,b3',SD b5];simp) st hst
     .refine T.path mix (vbr_5 (qv g [] 0 0 a i r (r.getD i 0) 0) (by simp[iN]) hrow dk (by simp[iN]) hg1 (SD b1) (SD (by simp only[iN,qv,hl];exact b2)) b3' (SD (by simp only[iN,qv];omega)) ?_)
      intro st hst
      simp only[qv,wi] at hst
      exact next (by unfold AI;rw[SD b1,SD b2,b3',SD b4];simp) st hst
 .rw[C5 h] at hf
  subst hf
  refine T.out mix (vbx_0 (qv g [] 0 0 a i r 0 0) (by simp[iN]) hrow (SD (by simp only[iN,qv,hrl];omega)) ?_)
  intro st hst
  simp only[iN,qv,zW a (show a<9223372036854775807 by omega)] at hst
  exact hR rfl st hst
def Hx(g:List (List Int)):Bool:= !(decide (24<g.length))&&!(Da g)
theorem valid_ct{g:List (List Int)}(hrw:Rows g):CT Try.prog 145 [] [.lst (gL g)] [] (.bool (Hx g)):=by
 have hl:=BJ g
 unfold Hx
 by_cases h24:24<g.length
 .exact CT.pathS mix Try.func145 (show Try.f145.body=some (zB Try.f145) by kernel_rfl) (nL rfl) (va_0 (qv g [] 0 0 0 0 [] 0 0) (SE (by simp only[iN,qv,hl];omega))) (by simp[h24])
 refine CT.path mix Try.func145 (show Try.f145.body=some (zB Try.f145) by kernel_rfl) (nL rfl) (va_1 (qv g [] 0 0 0 0 [] 0 0) (SD (by simp only[iN,qv,hl];omega)) ?_)
 rw[SD h24]
 unfold Da
 generalize hrr:fnd (Cw g) 0 g.length=res
 refine T.loop (fun a:Nat=>IB (qv g [] 0 0 a 0 [] 0 0)) (fun a=>a<=g.length/\fnd (Cw g) a (g.length-a)=res) (fun a=>g.length+1-a) 0 ⟨SK _,hrr⟩ ?_
 rintro a ⟨ha,hf⟩
 by_cases h:a<g.length
 .rw[CN h] at hf
  refine T.path mix (vai_0 (qv g [] 0 0 a 0 (g.getD a []) 0 0) (SE (by simp only[iN,qv,hl];omega)) ?_)
  refine vb_run hrw (by omega) a h (fun hb=>?_) (fun hb st hst=>?_)
  .simp only[hb] at hf
   subst hf
   exact fun st hst=>TK.ret hst _
  .simp only[hb] at hf
   exact⟨a+1,hst,⟨h,hf⟩,by omega⟩
 .rw[C5 h] at hf
  subst hf
  exact T.out mix (vax_0 (qv g [] 0 0 a 0 [] 0 0) (SD (by simp only[iN,qv,hl];omega)))
def DG(g:List (List Int))(s:List Bool):Int:=if 24<g.length then 20 else if Da g=true then 20 else if s.length≠g.length then 19 else 0
theorem QR{g:List (List Int)}{s:List Bool}(hrw:Rows g):CT Try.prog 134 [] [.lst (gL g),.lst (boL s)] [] (.int .i64 (DG g s)):=by
 have hl:=BJ g
 have hbl:=Ct s
 have hv:=valid_ct hrw
 have hb:Try.f134.body=some (zB Try.f134):=by kernel_rfl
 have hn:[AV.lst (gL g),.lst (boL s)].length<=Try.f134.ntmps:=nL rfl
 unfold DG
 by_cases h1:Hx g=true
 .have h1':=h1
  unfold Hx at h1'
  simp only[SG,Tj,decide_eq_false_iff_not] at h1'
  rw[Sx h1'.1,Sx (by rw[h1'.2];simp)]
  rw[h1] at hv
  by_cases h2:s.length=g.length
  .rw[Sx (by simp[h2])]
   exact CT.path mix Try.func134 hb hn (vc_2 ⟨g,s,[],0,0,0,0,[],0,0,true,0,[],[]⟩ hv rfl (by simp[iN,hl,hbl,h2]))
  .rw[Sw h2]
   exact CT.path mix Try.func134 hb hn (vc_1 ⟨g,s,[],0,0,0,0,[],0,0,true,0,[],[]⟩ hv rfl (by simp only[iN,hl,hbl,Tl,ne_eq];omega))
 .have h1:=Tk.2 h1
  have e:(if 24<g.length then (20:Int) else if Da g=true then 20 else if s.length≠g.length then 19 else 0)=20:=by
   by_cases h24:24<g.length
   .rw[Sw h24]
   .unfold Hx at h1
    rw[SD h24] at h1
    rw[Sx h24,Sw (by simpa using h1)]
  rw[e]
  rw[h1] at hv
  exact CT.path mix Try.func134 hb hn (vc_0 ⟨g,s,[],0,0,0,0,[],0,0,false,0,[],[]⟩ hv rfl)
def st32(q:QK):St:={n:=Try.f143.ntmps,fr:=[(0,.lst (gL q.g)),(1,.lst (boL q.s)),(2,.int .i64 (iN q.v))],hp:=[]}
def EV(q:QK):St:={n:=Try.f143.ntmps,fr:=[(0,.lst (gL q.g)),(7,lI q.d),(8,.sl 0 0 q.p.length),(9,.int .i64 (iN q.v))],hp:=[some (dB q.p)]}
def Fe(q:QK):St:={n:=Try.f143.ntmps,fr:=[(0,.lst (gL q.g)),(7,lI q.d),(8,.sl 0 0 q.p.length),(9,.int .i64 (iN q.v)),(10,.int .i64 (iN q.i-1))],hp:=[some (dB q.p)]}
def cW(q:QK):Nat->FuncId->List AV->List (Option Blk)->AH:=fun dst f args _=>match f with
 | 125=>.call [] [] [] (lI q.d)
 | 143=>.call [] [] [] (lI q.p)
 | 134=>.call [] [] [] (.int .i64 q.e)
 | 126=>.call [] [] [] (lI q.p)
 | 22=>.call [] [] [] (.bool true)
 | _=>.no
def e32(q:QK):List (Nat×AV):=[(30,lI q.r),(39,.int .i64 q.x),(47,lI q.r),(50,.int .i64 (iN q.w)),(54,.int .i64 q.y),(58,.int .i64 q.x)]
def st34(q:QK):St:={n:=Try.f126.ntmps,fr:=[(0,.lst (gL q.g)),(1,.lst (boL q.s)),(2,.int .i64 (iN q.v)),(3,.int .i64 (iN q.w))],hp:=[]}
def Gl(q:QK):St:={n:=Try.f126.ntmps,fr:=[(2,.int .i64 (iN q.v)),(3,.int .i64 (iN q.w)),(9,lI q.p),(10,.sl 0 0 (q.i+1))],hp:=[some (dB q.r)]}
def e34(q:QK):List (Nat×AV):=[(16,.int .i64 q.x),(30,.int .i64 (iN q.a))]
theorem rh_0(q:QK)(h1:(CT Try.prog 125 [] [AV.lst (gL q.g),AV.lst (boL q.s),iv (iN q.v)] [] (AV.lst (List.map (iv) q.d))))(h2:(iN (gL q.g).length<=iN (gL q.g).length))(h3:(8 * iN (gL q.g).length<=281474976710656))(h4:(iN (gL q.g).length<=9223372036854775807)){post:Exit->St->Prop}(ht:T Try.prog 0 (.loop (zC (zB Try.f143) 0)) (St.mk 67 [(0,AV.lst (gL q.g)),(7,AV.lst (List.map (iv) q.d)),(8,AV.sl 0 0 (gL q.g).length),(9,iv 0)] [some (Blk.mk (List.replicate (gL q.g).length (iv 0)) 1 true true none)]) (TK Try.prog 0 post (zK (zB Try.f143) 0))):GoP Try.prog (hU [] (e32 q) (cW q)) 0 (zB Try.f143) (st32 q) post:=
 zR (σ:=[0]) (fz:=[]) (vars:=[0,7,8,9]) (by kernel_rfl) (aj (u2 (aj (u2 (u2 (u2 (aj (ak (k5 (al h1))) s2)))) (aj (u2 (u2 (aj (k2 (aj (show(0<=iN (gL q.g).length) from(Int.natCast_nonneg _)) (aj h2 (aj h3 h4)))) s2))) s2))) t6) ht
theorem rhx_0(q:QK)(h1:(decide (iN q.v<iN (gL q.g).length)=false))(h2:(q.p.length=(List.map (iv) q.p).length)):GoO Try.prog (hU [44] (e32 q) (cW q)) 0 (zC (zB Try.f143) 0) (zK (zB Try.f143) 0) (EV q) (Fin Try.prog Try.f143 0 [] (AV.lst (List.map (iv) q.p))):=
 zF (σ:=[]) (fz:=[0]) (by kernel_rfl) (aj (aj (aj (u2 (u2 (u2 (al t3)))) (al h1)) (al (u2 s2))) (al h2))
theorem rhi_0(q:QK)(h1:(decide (iN q.v<iN (gL q.g).length)=true))(h2:(0<=iN q.v))(h3:(iN q.v<iN q.p.length))(h4:((0+(iN q.v).toNat).succ.le (List.map (iv) q.p).length))(h5:((gL q.g)[(iN q.v).toNat]?=some (AV.lst (List.map (iv) q.r)))){post:Exit->St->Prop}(ht:T Try.prog 0 (.loop (zC (zC (zB Try.f143) 0) 0)) (St.mk 67 [(0,AV.lst (gL q.g)),(7,AV.lst (List.map (iv) q.d)),(8,AV.sl 0 0 q.p.length),(9,iv (iN q.v)),(10,iv (i64.wrap (iN (List.map (iv) q.r).length-1)))] [some (Blk.mk ((List.map (iv) q.p).set (0+(iN q.v).toNat) (iv (-1))) 1 true true none)]) (TK Try.prog 0 post (zK (zC (zB Try.f143) 0) 0))):GoP Try.prog (hU [45] (e32 q) (cW q)) 0 (zC (zB Try.f143) 0) (EV q) post:=
 zR (σ:=[0]) (fz:=[]) (vars:=[0,7,8,9,10]) (by kernel_rfl) (aj (aj (u2 (u2 (u2 (al t3)))) (aj h1 (aj (u2 (u2 (aj (k2 (aj h2 h3)) (al (ak h4))))) (al (u2 (u2 (aj (k2 (aj h2 h5)) (u2 (u2 (u2 s2)))))))))) t7) ht
theorem rhbx_0(q:QK)(h1:(decide (0<=iN q.i-1)=true))(h2:(0<=iN q.v))(h3:((List.map (iv) q.d)[(iN q.v).toNat]?=some (iv q.x)))(h4:(decide (0<q.x)=false)){post:Exit->St->Prop}{R:St->Prop}(hR:∀st,Ren 0 st (St.mk 67 [(0,AV.lst (gL q.g)),(7,AV.lst (List.map (iv) q.d)),(8,AV.sl 0 0 q.p.length),(9,iv (i64.wrap (iN q.v+1)))] [some (Blk.mk (List.map (iv) q.p) 1 true true none)])->R st):GoO Try.prog (hU [84,73] (e32 q) (cW q)) 0 (zC (zC (zB Try.f143) 0) 0) (zK (zC (zB Try.f143) 0) 0) (Fe q) (andThen R post):=
 zN (σ:=[0]) (fz:=[]) (vars:=[0,7,8,9]) (by kernel_rfl) (aj (aj (aj (u2 (u2 (u2 (ag h1 (ag h1 (aj (aj h1 (k2 (aj h2 h3))) (ag h1 (ag h1 (al (aj h1 t2)))))))))) (al h4)) (al (u2 (u2 s2)))) t6) hR
theorem rhbx_1(q:QK)(h1:(decide (0<=iN q.i-1)=false)){post:Exit->St->Prop}{R:St->Prop}(hR:∀st,Ren 0 st (St.mk 67 [(0,AV.lst (gL q.g)),(7,AV.lst (List.map (iv) q.d)),(8,AV.sl 0 0 q.p.length),(9,iv (i64.wrap (iN q.v+1)))] [some (Blk.mk (List.map (iv) q.p) 1 true true none)])->R st):GoO Try.prog (hU [84,72] (e32 q) (cW q)) 0 (zC (zC (zB Try.f143) 0) 0) (zK (zC (zB Try.f143) 0) 0) (Fe q) (andThen R post):=
 zN (σ:=[0]) (fz:=[]) (vars:=[0,7,8,9]) (by kernel_rfl) (aj (aj (aj (u2 (u2 (u2 (aj h1 (aj h1 (aj h1 (aj h1 (aj h1 (al (aj h1 t2)))))))))) (al (show(false=false) by first | decide | exact Sc _))) (al (u2 (u2 s2)))) t6) hR
theorem rhbr_0(q:QK)(h1:(decide (0<=iN q.i-1)=true))(h2:(0<=iN q.v))(h3:((List.map (iv) q.d)[(iN q.v).toNat]?=some (iv q.x)))(h4:(decide (0<q.x)=true))(h5:((gL q.g)[(iN q.v).toNat]?=some (AV.lst (List.map (iv) q.r))))(h6:(0<=iN q.i-1))(h7:((List.map (iv) q.r)[(iN q.i-1).toNat]?=some (iv (iN q.w))))(h8:(0<=iN q.w))(h9:((List.map (iv) q.d)[(iN q.w).toNat]?=some (iv q.y)))(h10:((q.y==i64.wrap (q.x-1))=true))(h11:(iN q.v<iN q.p.length))(h12:((0+(iN q.v).toNat).succ.le (List.map (iv) q.p).length)){post:Exit->St->Prop}{R:St->Prop}(hR:∀st,Ren 0 st (St.mk 67 [(0,AV.lst (gL q.g)),(7,AV.lst (List.map (iv) q.d)),(8,AV.sl 0 0 q.p.length),(9,iv (iN q.v)),(10,iv (i64.wrap (iN q.i-1-1)))] [some (Blk.mk ((List.map (iv) q.p).set (0+(iN q.v).toNat) (iv (iN q.w))) 1 true true none)])->R st):GoP Try.prog (hU [73,85,123] (e32 q) (cW q)) 0 (zC (zC (zB Try.f143) 0) 0) (Fe q) (andThen R post):=
 zN (σ:=[0]) (fz:=[]) (vars:=[0,7,8,9,10]) (by kernel_rfl) (aj (aj (u2 (u2 (u2 (ag h1 (ag h1 (aj (aj h1 (k2 (aj h2 h3))) (ag h1 (ag h1 (al (aj h1 t2)))))))))) (aj h4 (aj (u2 (u2 (aj (k2 (aj h2 h5)) (u2 (u2 (aj (k2 (aj h6 h7)) (u2 s2))))))) (aj (u2 (u2 (aj (k2 (aj h8 h9)) (u2 (u2 (u2 (aj (k2 (aj h2 h3)) (u2 (u2 (al t3)))))))))) (aj h10 (aj (u2 (u2 (u2 (aj (k2 (aj h2 h11)) (al (k2 h12)))))) (al (u2 (u2 s2))))))))) t7) hR
theorem rhbr_1(q:QK)(h1:(decide (0<=iN q.i-1)=true))(h2:(0<=iN q.v))(h3:((List.map (iv) q.d)[(iN q.v).toNat]?=some (iv q.x)))(h4:(decide (0<q.x)=true))(h5:((gL q.g)[(iN q.v).toNat]?=some (AV.lst (List.map (iv) q.r))))(h6:(0<=iN q.i-1))(h7:((List.map (iv) q.r)[(iN q.i-1).toNat]?=some (iv (iN q.w))))(h8:(0<=iN q.w))(h9:((List.map (iv) q.d)[(iN q.w).toNat]?=some (iv q.y)))(h10:((q.y==i64.wrap (q.x-1))=false)){post:Exit->St->Prop}{R:St->Prop}(hR:∀st,Ren 0 st (St.mk 67 [(0,AV.lst (gL q.g)),(7,AV.lst (List.map (iv) q.d)),(8,AV.sl 0 0 q.p.length),(9,iv (iN q.v)),(10,iv (i64.wrap (iN q.i-1-1)))] [some (Blk.mk (List.map (iv) q.p) 1 true true none)])->R st):GoP Try.prog (hU [73,85,122] (e32 q) (cW q)) 0 (zC (zC (zB Try.f143) 0) 0) (Fe q) (andThen R post):=
 zN (σ:=[0]) (fz:=[]) (vars:=[0,7,8,9,10]) (by kernel_rfl) (aj (aj (u2 (u2 (u2 (ag h1 (ag h1 (aj (aj h1 (k2 (aj h2 h3))) (ag h1 (ag h1 (al (aj h1 t2)))))))))) (aj h4 (aj (u2 (u2 (aj (k2 (aj h2 h5)) (u2 (u2 (aj (k2 (aj h6 h7)) (u2 s2))))))) (aj (u2 (u2 (aj (k2 (aj h8 h9)) (u2 (u2 (u2 (aj (k2 (aj h2 h3)) (u2 (u2 (al t3)))))))))) (aj h10 (al (u2 (u2 s2)))))))) t7) hR
theorem rf_0(q:QK)(h1:(CT Try.prog 125 [] [AV.lst (gL q.g),AV.lst (boL q.s),iv (iN q.w)] [] (AV.lst (List.map (iv) q.d))))(h2:(0<=iN q.v))(h3:((List.map (iv) q.d)[(iN q.v).toNat]?=some (iv q.x)))(h4:(decide (q.x<0)=false))(h5:(CT Try.prog 143 [] [AV.lst (gL q.g),AV.lst (boL q.s),iv (iN q.w)] [] (AV.lst (List.map (iv) q.p)))){post:Exit->St->Prop}(ht:T Try.prog 0 (.loop (zC (zB Try.f126) 0)) (St.mk 37 [(2,iv (iN q.v)),(3,iv (iN q.w)),(9,AV.lst (List.map (iv) q.p)),(10,AV.sl 0 0 1)] [some (Blk.mk [iv (iN q.v)] 1 true true none)]) (TK Try.prog 0 post (zK (zB Try.f126) 0))):GoP Try.prog (hU [36] (e34 q) (cW q)) 0 (zB Try.f126) (st34 q) post:=
 zR (σ:=[0]) (fz:=[]) (vars:=[2,3,9,10]) (by kernel_rfl) (aj (u2 (aj (u2 (u2 (u2 (aj (ak (k5 (al h1))) (u2 (aj (k2 (aj h2 h3)) (u2 s2))))))) (aj h4 (aj (u2 (u2 (u2 (aj (ak (k5 (al h5))) s2)))) (al (u2 (u2 s2))))))) t6) ht
theorem rfn_0(q:QK)(h1:(CT Try.prog 125 [] [AV.lst (gL q.g),AV.lst (boL q.s),iv (iN q.w)] [] (AV.lst (List.map (iv) q.d))))(h2:(0<=iN q.v))(h3:((List.map (iv) q.d)[(iN q.v).toNat]?=some (iv q.x)))(h4:(decide (q.x<0)=true)):GoP Try.prog (hU [37] (e34 q) (cW q)) 0 (zB Try.f126) (st34 q) (Fin Try.prog Try.f126 0 [] (AV.nils)):=
 zF (σ:=[]) (fz:=[]) (by kernel_rfl) (aj (u2 (aj (u2 (u2 (u2 (aj (ak (k5 (al h1))) (u2 (aj (k2 (aj h2 h3)) (u2 s2))))))) (aj h4 s2))) t2)
theorem rfex_0(q:QK)(h1:((iN q.v != iN q.w)=false))(h2:(q.i+1=(List.map (iv) q.r).length)):GoO Try.prog (hU [54] (e34 q) (cW q)) 0 (zC (zB Try.f126) 0) (zK (zB Try.f126) 0) (Gl q) (Fin Try.prog Try.f126 0 [] (AV.lst (List.map (iv) q.r))):=
 zF (σ:=[]) (fz:=[0]) (by kernel_rfl) (aj (aj (aj (u2 (u2 (al t3))) (al h1)) (al (u2 s2))) (al h2))
theorem rfe_0(q:QK)(h1:((iN q.v != iN q.w)=true))(h2:(0<=iN q.v))(h3:((List.map (iv) q.p)[(iN q.v).toNat]?=some (iv (iN q.a))))(h4:((List.map (iv) q.r).length=q.i+1))(h5:(1<=[iv (iN q.a)].length))(h6:((List.map (iv) q.r).length+[iv (iN q.a)].length<=9223372036854775807))(h7:(((List.map (iv) q.r).length+[iv (iN q.a)].length) * 8<=140737488355328)){post:Exit->St->Prop}{R:St->Prop}(hR:∀st,Ren 0 st (St.mk 37 [(2,iv (iN q.a)),(3,iv (iN q.w)),(9,AV.lst (List.map (iv) q.p)),(10,AV.sl 0 0 ((List.map (iv) q.r).length+[iv (iN q.a)].length))] [some (Blk.mk (List.map (iv) q.r++[iv (iN q.a)]) 1 true true none)])->R st):GoP Try.prog (hU [55] (e34 q) (cW q)) 0 (zC (zB Try.f126) 0) (Gl q) (andThen R post):=
 zN (σ:=[2]) (fz:=[]) (vars:=[2,3,9,10]) (by kernel_rfl) (aj (aj (u2 (u2 (al t3))) (aj h1 (aj (u2 (u2 (aj (k2 (aj h2 h3)) (u2 s2)))) (al (u2 (u2 (u2 (aj (k2 (aj h4 (aj (aj (show(nat_lit 1=nat_lit 1) by first | decide | exact Sc _) h5) (aj h6 h7)))) s2)))))))) t6) hR
theorem Lev.occ{g:List (List Int)}{s:List Bool}(hg:OkG g s){goal k:Nat}{d:List Int}(h:Lev g s goal k d){v m:Nat}(hv:v<g.length)(hm:d.getD v 0=(m:Int)):∀j,j<=m->((m-j:Nat):Int)∈d:=by
 have occ:∀j,j<=m->∃u,u<g.length/\d.getD u 0=((m-j:Nat):Int):=by
  intro j
  induction j with
  | zero=>intro _;exact⟨v,hv,by rw[hm];rfl⟩
  | succ j ih=>
   intro hj
   obtain⟨u,hu,he⟩:=ih (by omega)
   rcases h.back u hu (by omega) with rfl | ⟨_,w,hw,h1,h2⟩
   .rw[h.zero] at he;omega
   .have:=(hg.row u hu).2 w hw
    exact⟨w.toNat,by omega,by omega⟩
 intro j hj
 obtain⟨u,hu,he⟩:=occ j hj
 rw[<-he,Sz,Sy (by rw[h.len];exact hu)]
 exact S4 _
theorem RN{g:List (List Int)}{s:List Bool}(hg:OkG g s){goal k:Nat}(hk:k+1=g.length){d:List Int}(h:Lev g s goal k d):BS g s d k=d:=by
 apply List.ext_getElem (by rw[H4])
 intro v h1 h2
 have hv:v<g.length:=by rw[<-h.len];exact h2
 have e:=NO hg d h.len k v hv
 rw[Sz,Sy h1] at e
 have e2:d.getD v 0=d[v]:=by rw[Sz,Sy h2];rfl
 show(BS g s d k)[v]=d[v]
 rw[<-e2]
 refine Eq.trans e ?_
 unfold rdV
 by_cases c1:s.getD v false=true
 .rw[Sw c1]
 .rw[Sx c1]
  by_cases c2:0<=d.getD v 0
  .rw[Sw c2]
  .rw[Sx c2]
   by_cases c3:((g.getD v []).any fun w=>d.getD w.toNat 0==(k:Int))=true
   .exfalso
    obtain⟨w,hw,he⟩:=List.any_eq_true.1 c3
    have hwr:=(hg.row v hv).2 w hw
    have occ:=h.occ hg (v:=w.toNat) (m:=k) (by omega) (by simpa using he)
    have hb:=(h.bnd v hv).1
    have hneg:(-1:Int)∈d:=by
     have:d.getD v 0 = -1:=by omega
     rw[<-this,e2];exact S4 _
    have nd:((-1:Int)::(List.range (k+1)).map (fun j:Nat=>(j:Int))).Nodup:=by
     refine List.nodup_cons.2 ⟨fun hm=>?_,List.pairwise_map.2 ((List.nodup_range (n:=k+1)).imp fun hne e=>hne (Int.ofNat_inj.1 e))⟩
     obtain⟨j,_,hj⟩:=S3.1 hm
     omega
    have:=Iz nd fun x hx=>by
     rcases S1.1 hx with rfl | hx
     .exact hneg
     .obtain⟨j,hj,rfl⟩:=S3.1 hx
      have hj:=Tp.1 hj
      have:=occ (k-j) (by omega)
      rwa [show k-(k-j)=j by omega] at this
    simp only[Td,SB,Tg,h.len] at this
    omega
   .rw[Sx c3]
theorem La{g:List (List Int)}{s:List Bool}(hg:OkG g s){goal:Nat}(hgo:goal<g.length):AA g s goal (g.length-1)=AA g s goal g.length:=by
 unfold AA
 by_cases hs:s.getD goal false=true
 .rw[Sw hs,Sw hs]
 .rw[Sx hs,Sx hs]
  obtain⟨k,hk⟩:∃k,k+1=g.length:=⟨g.length-1,by omega⟩
  rw[<-hk,Si,FY]
  exact(RN hg hk (Lev.run hg hgo k)).symm
theorem Gu{p:Nat->Bool}:∀{n s:Nat},(∀i,s<=i->i<s+n->p i=false)->fnd p s n=none:=by
 intro n
 induction n with
 | zero=>intro s _;rfl
 | succ n ih=>intro s h;rw[fnd,h s (SJ _) (by omega)];exact ih fun i h1 h2=>h i (by omega) (by omega)
theorem Ea{p:Nat->Bool}:∀{n s j:Nat},fnd p s n=some j->p j=true/\s<=j/\j<s+n:=by
 intro n
 induction n with
 | zero=>intro s j h;cases h
 | succ n ih=>
  intro s j h
  rw[fnd] at h
  cases hp:p s with
  | true=>rw[hp] at h;cases h;exact⟨hp,SJ _,by omega⟩
  | false=>rw[hp] at h;obtain⟨a,b,c⟩:=ih h;exact⟨a,by omega,by omega⟩
theorem Pr{g:List (List Int)}{s:List Bool}(hg:OkG g s){goal:Nat}{d:List Int}(hD:Dst g s goal d){u:Nat}(hu:u<g.length)(h0:0<d.getD u 0)(hgd:s.getD goal false=false):0<=B2 g d u/\B2 g d u<(g.length:Int)/\d.getD (B2 g d u).toNat 0=d.getD u 0-1:=by
 unfold B2
 cases hf:fnd (DV g d u) 0 (g.getD u []).length with
 | some i=>
  obtain⟨a,_,b⟩:=Ea hf
  obtain⟨w,hw,hw1,_⟩:=FF hg hu (i:=i) (by omega)
  unfold DV at a
  simp only[SG,decide_eq_true_eq,beq_iff_eq] at a
  show 0<=(g.getD u []).getD i 0/\(g.getD u []).getD i 0<(g.length:Int)/\d.getD ((g.getD u []).getD i 0).toNat 0=_
  exact⟨by omega,by omega,a.2⟩
 | none=>
  exfalso
  rcases hD.back u hu (by omega) with rfl | ⟨_,w,hw,h1,h2⟩
  .rw[hD.zero hgd] at h0;omega
  .obtain⟨i,hi,rfl⟩:=Ta.1 hw
   have hn:=CB hf i (SK _) (by omega)
   have e:(g.getD u []).getD i 0=(g.getD u [])[i]:=by rw[Sz (l:=g.getD u []),Sy hi];rfl
   unfold DV at hn
   rw[e,SE h0,Bool.true_and] at hn
   have:d.getD ((g.getD u [])[i]).toNat 0=d.getD u 0-1:=by omega
   rw[this] at hn
   simp at hn
theorem I7{g:List (List Int)}{s:List Bool}(hg:OkG g s){goal:Nat}(hgo:goal<g.length){d:List Int}(hD:Dst g s goal d){a m:Nat}(ha:a<g.length)(hm:d.getD a 0=(m:Int))(hgd:s.getD goal false=false):
  ∀k,k<=m->0<=wkZ g d a k/\wkZ g d a k<(g.length:Int)/\d.getD (wkZ g d a k).toNat 0=((m-k:Nat):Int):=by
 intro k
 induction k with
 | zero=>intro _;exact⟨by simp[wkZ],by simp only[wkZ];omega,by simp only[wkZ,SH];rw[hm];rfl⟩
 | succ k ih=>
  intro hk
  obtain⟨h1,h2,h3⟩:=ih (by omega)
  obtain⟨g1,g2,g3⟩:=Pr hg hD (u:=(wkZ g d a k).toNat) (by omega) (by omega) hgd
  exact⟨g1,g2,by rw[wkZ,g3,h3];omega⟩
theorem JR{g:List (List Int)}{s:List Bool}{goal:Nat}{d:List Int}(hD:Dst g s goal d){v:Nat}(hv:v<g.length)(h0:d.getD v 0=0):v=goal:=by
 rcases hD.back v hv (by omega) with e | ⟨_,w,_,h1,h2⟩
 .exact e
 .omega
theorem wrapM(far:Nat)(h:far<1000000):i64.wrap (iN (far+1)-1)=(far:Int):=by
 have e1:(2:Int) ^ i64.bits=18446744073709551616:=by decide
 have e2:(2:Int) ^ (i64.bits-1)=9223372036854775808:=by decide
 have e3:i64.signed=true:=by decide
 simp only[IntKind.wrap,e1,e2,e3,Bool.true_and,decide_eq_true_eq,iN]
 split<;>omega
theorem rc_run{g:List (List Int)}{s:List Bool}(hg:OkG g s)(goal far v:Nat)(d:List Int)(hd:d.length=g.length)(hf:far<1000)(hv:v<g.length){R:St->Prop}{post:Exit->St->Prop}
  (hR:∀st,Ren 0 st (DY (qd g s goal (F0 (g.getD v []) v far d) far (v+1) 0 []))->R st):
  T Try.prog 0 (.loop (zC (zC (zC (zB Try.f125) 1) 0) 0)) (Ip (qd g s goal d far v 0 (g.getD v []))) (TK Try.prog 0 (andThen R post) (zK (zC (zC (zB Try.f125) 1) 0) 0)):=by
 obtain⟨hr1,hr2⟩:=hg.row v hv
 have hgl:=hg.len
 have hrow:=CQ hv
 generalize g.getD v []=r at hR hr1 hr2 hrow
 have hrl:=BW r
 refine T.loop (fun i:Nat=>Ip (qd g s goal ((r.take i).foldl (BL v far) d) far v i r)) (fun i=>i<=r.length) (fun i=>r.length+1-i) 0 (SK _) ?_
 intro i hi
 have hdl:((r.take i).foldl (BL v far) d).length=g.length:=by rw[D9 (IP v far),hd]
 by_cases h:i<r.length
 .obtain⟨w0,w1,_⟩:=hr2 r[i] (S4 h)
  obtain⟨w,hw⟩:∃w:Nat,r[i]=(w:Int):=⟨r[i].toNat,by omega⟩
  have hwn:w<g.length:=by omega
  have hget:(r.map (AV.int .i64))[i]?=some (.int .i64 (w:Int)):=by rw[SI,Sy h,hw];rfl
  have hstep:=OI (BL v far) r d i h
  generalize hdd:(r.take i).foldl (BL v far) d=d' at hdl hstep
  rw[hw] at hstep
  have hml:=BW d'
  by_cases he:(d'.getD w 0==(far:Int))=true
  .refine T.path mix (rcr_0 ⟨g,s,goal,g.length,d',far,v,i,r,w,false,d'.getD w 0⟩ (by simp[iN]) hrow (SE (by simp only[iN,hrl];omega)) (by simp[iN]) hget (by simp[iN]) (by simp[iN];omega) (Et (l:=d') (j:=w) (by omega)) (by simp only[wrapM far (show far<1000000 by omega)];exact he) (by simp[iN];omega) (by simp[iN,hml];omega) ?_)
   intro st hst
   refine⟨i+1,?_,h,by omega⟩
   have e:BL v far d' ((w:Nat):Int)=d'.set v ((far+1:Nat):Int):=by unfold BL;rw[SH,Sw he]
   rw[hstep,e]
   simp only[iN,SH,zW i (show i<9223372036854775807 by omega)] at hst
   rw[map_set] at hst
   exact hst
  .have hne:=he
   have he:=Tk.2 he
   refine T.path mix (rcr_1 ⟨g,s,goal,g.length,d',far,v,i,r,w,false,d'.getD w 0⟩ (by simp[iN]) hrow (SE (by simp only[iN,hrl];omega)) (by simp[iN]) hget (by simp[iN]) (by simp[iN];omega) (Et (l:=d') (j:=w) (by omega)) (by simp only[wrapM far (show far<1000000 by omega)];exact he) ?_)
   intro st hst
   refine⟨i+1,?_,h,by omega⟩
   have e:BL v far d' ((w:Nat):Int)=d':=by unfold BL;rw[SH,Sx hne]
   rw[hstep,e]
   simp only[iN,zW i (show i<9223372036854775807 by omega)] at hst
   exact hst
 .have hti:r.take i=r:=List.take_of_length_le (by omega)
  refine T.out mix (rcx_0 (qd g s goal ((r.take i).foldl (BL v far) d) far v i r) (by simp[iN]) hrow (SD (by simp only[iN,qd,hrl];omega)) ?_)
  intro st hst
  refine hR st ?_
  rw[hti] at hst
  simp only[iN,qd,zW v (show v<9223372036854775807 by omega)] at hst
  exact hst
theorem rb_run{g:List (List Int)}{s:List Bool}(hg:OkG g s)(goal far:Nat)(d:List Int)(hd:d.length=g.length)(hf:far<1000){R:St->Prop}{post:Exit->St->Prop}
  (hR:∀st,Ren 0 st (I2 (qd g s goal (BS g s d far) (far+1) 0 0 []))->R st):
  T Try.prog 0 (.loop (zC (zC (zB Try.f125) 1) 0)) (DY (qd g s goal d far 0 0 [])) (TK Try.prog 0 (andThen R post) (zK (zC (zB Try.f125) 1) 0)):=by
 have hgl:=hg.len
 have hl:=BJ g
 refine T.loop (fun v:Nat=>DY (qd g s goal ((List.range v).foldl (Bc g s far) d) far v 0 [])) (fun v=>v<=g.length) (fun v=>g.length+1-v) 0 (SK _) ?_
 intro v hv
 have hdl:((List.range v).foldl (Bc g s far) d).length=g.length:=by rw[D9 (Ke g s far),hd]
 by_cases h:v<g.length
 .have hstep:=FY (Bc g s far) d v
  generalize (List.range v).foldl (Bc g s far) d=d' at hdl hstep
  have hb:=GN (s:=s) (v:=v) (by rw[hg.sh];exact h)
  have d1:∀q:QD,q.g=g->q.v=v->decide (iN q.v<iN (gL q.g).length)=true:=fun q e1 e2=>SE (by rw[e1,e2];simp only[iN,hl];omega)
  have next:∀(d'':List Int) (st:St),Bc g s far d' v=d''->Ren 0 st (DY (qd g s goal d'' far (v+1) 0 []))->∃j,Ren 0 st (DY (qd g s goal ((List.range j).foldl (Bc g s far) d) far j 0 []))/\j<=g.length/\g.length+1-j<g.length+1-v:=by
   intro d'' st e hst
   refine⟨v+1,?_,h,by omega⟩
   rw[hstep,e];exact hst
  by_cases hs:s.getD v false=true
  .refine T.path mix (rbn_0 ⟨g,s,goal,g.length,d',far,v,0,[],0,s.getD v false,0⟩ (d1 _ rfl rfl) (by simp[iN]) hb hs ?_)
   intro st hst
   simp only[iN,zW v (show v<9223372036854775807 by omega)] at hst
   exact next d' st (by unfold Bc;rw[Sw hs]) hst
  .by_cases hd0:decide (0<=d'.getD v 0)=true
   .refine T.path mix (rbn_1 ⟨g,s,goal,g.length,d',far,v,0,[],0,s.getD v false,d'.getD v 0⟩ (d1 _ rfl rfl) (by simp[iN]) hb (Tk.2 hs) (by simp[iN];omega) (Et (l:=d') (j:=v) (by omega)) hd0 ?_)
    intro st hst
    simp only[iN,zW v (show v<9223372036854775807 by omega)] at hst
    exact next d' st (by unfold Bc;rw[Sx hs,Sw hd0]) hst
   .refine T.path mix (rbi_0 ⟨g,s,goal,g.length,d',far,v,0,g.getD v [],0,s.getD v false,d'.getD v 0⟩ (d1 _ rfl rfl) (by simp[iN]) hb (Tk.2 hs) (by simp[iN];omega) (Et (l:=d') (j:=v) (by omega)) (Tk.2 hd0) ?_)
    exact rc_run hg goal far v d' hdl hf h (R:=fun st'=>∃j,Ren 0 st' (DY (qd g s goal ((List.range j).foldl (Bc g s far) d) far j 0 []))/\j<=g.length/\g.length+1-j<g.length+1-v) (post:=TK Try.prog 0 (andThen R post) (zK (zC (zB Try.f125) 1) 0)) fun st hst=>next _ st (by unfold Bc;rw[Sx hs,Sx hd0]) hst
 .obtain rfl:v=g.length:=by omega
  refine T.out mix (rbx_0 (qd g s goal ((List.range g.length).foldl (Bc g s far) d) far g.length 0 []) (SD (by simp only[iN,qd,hl];omega)) ?_)
  intro st hst
  refine hR st ?_
  simp only[iN,qd,zW (far+1) (show far+1<9223372036854775807 by omega)] at hst
  exact hst
theorem Lf{g:List (List Int)}{s:List Bool}(hg:OkG g s)(goal:Nat)(hgo:goal<g.length):CT Try.prog 125 [] [.lst (gL g),.lst (boL s),.int .i64 (goal:Nat)] [] (lI (AA g s goal (g.length-1))):=by
 have hgl:=hg.len
 have hl:=BJ g
 refine CT.path mix Try.func125 (show Try.f125.body=some (zB Try.f125) by kernel_rfl) (nL rfl) (ri_0 (qd g s goal [] 0 0 0 []) (Int.le_refl _) (by simp only[qd,iN,hl];omega) (by simp only[qd,iN,hl];omega) ?_)
 have hb:=GN (s:=s) (v:=goal) (by rw[hg.sh];exact hgo)
 have key:T Try.prog 0 (.loop (zC (zB Try.f125) 0)) (Hh (qd g s goal (BF g.length 0) 0 0 0 [])) (TK Try.prog 0 (Fin Try.prog Try.f125 0 [] (lI (AA g s goal (g.length-1)))) (zK (zB Try.f125) 0)):=by
  refine T.loop (fun i:Nat=>Hh (qd g s goal (BF g.length i) 0 0 i [])) (fun i=>i<=g.length) (fun i=>g.length+1-i) 0 (SK _) ?_
  intro i hi
  by_cases h:i<g.length
  .refine T.path mix (rfr_0 (qd g s goal (BF g.length i) 0 0 i []) (SE (by simp only[iN,qd,hl];omega)) (by simp[iN]) (by simp[iN,qd];omega) (by simp[iN,qd,F6];omega) ?_)
   intro st hst
   refine⟨i+1,?_,h,by omega⟩
   simp only[iN,qd,SH,zW i (show i<9223372036854775807 by omega)] at hst
   rw[map_set,NJ _ _ h] at hst
   exact hst
  .obtain rfl:i=g.length:=by omega
   by_cases hs:s.getD goal false=true
   .have k:=rfs_0 ⟨g,s,goal,g.length,BF g.length g.length,0,0,g.length,[],0,s.getD goal false,0⟩ (SD (by simp only[iN,hl];omega)) (by simp[iN]) hb hs (by simp[F6])
    have e:AA g s goal (g.length-1)=BF g.length g.length:=by unfold AA;rw[Sw hs,JS]
    rw[e]
    exact T.out mix k
   .have e:AA g s goal (g.length-1)=(List.range (g.length-1)).foldl (BS g s) (Cm g goal):=by unfold AA;rw[Sx hs]
    refine T.out mix (rfx_0 ⟨g,s,goal,g.length,BF g.length g.length,0,0,g.length,[],0,s.getD goal false,0⟩ (SD (by simp only[iN,hl];omega)) (by simp[iN]) hb (Tk.2 hs) (by simp[iN];omega) (by simp[iN,F6];omega) ?_)
    simp only[iN,SH]
    rw[map_set,JS,e]
    refine T.loop (fun far:Nat=>I2 (qd g s goal ((List.range far).foldl (BS g s) (Cm g goal)) far 0 0 [])) (fun far=>far<=g.length-1) (fun far=>g.length+1-far) 0 (SK _) ?_
    intro far hfar
    have hdl:((List.range far).foldl (BS g s) (Cm g goal)).length=g.length:=by rw[D9 (H4 g s),Kj]
    by_cases hf:far<g.length-1
    .refine T.path mix (rai_0 (qd g s goal ((List.range far).foldl (BS g s) (Cm g goal)) far 0 0 []) (SE (by simp only[iN,qd,hl];omega)) ?_)
     refine rb_run hg goal far _ hdl (by omega) fun st hst=>⟨far+1,?_,hf,by omega⟩
     rw[FY];exact hst
    .obtain rfl:far=g.length-1:=by omega
     exact T.out mix (rax_0 (qd g s goal ((List.range (g.length-1)).foldl (BS g s) (Cm g goal)) (g.length-1) 0 0 []) (SD (by simp only[iN,qd,hl];omega)) (by simp[qd,hdl]))
 unfold Hh qd dB at key
 simp only[qd,hl,O0]
 exact key
def qw(g:List (List Int))(s:List Bool)(d:List Int)(v w i:Nat)(r p:List Int)(x y:Int):QK:=⟨g,s,d,v,w,0,i,r,x,y,false,0,p,[]⟩
theorem set_set'(l:List Int)(v:Nat)(a b:Int):(l.set v a).set v b=l.set v b:=by rw[List.set_set]
theorem rhb_run{g:List (List Int)}{s:List Bool}(hg:OkG g s)(d:List Int)(hd:d.length=g.length)(hsm:Dw d)(v:Nat)(hv:v<g.length){R:St->Prop}{post:Exit->St->Prop}
  (hR:∀st,Ren 0 st (EV (qw g s d (v+1) 0 0 [] (Bu g d (v+1)) 0 0))->R st):
  T Try.prog 0 (.loop (zC (zC (zB Try.f143) 0) 0)) (Fe (qw g s d v 0 (g.getD v []).length (g.getD v []) ((Bu g d v).set v (-1)) 0 0)) (TK Try.prog 0 (andThen R post) (zK (zC (zB Try.f143) 0) 0)):=by
 have hgl:=hg.len
 have hr1:=(hg.row v hv).1
 have hrow:=CQ hv
 have hget:=fun i=>FF hg hv (i:=i)
 have hdv:=hsm.get (v:=v) (by omega)
 have hv1:=Bp (l:=d) (j:=v) (by omega)
 have hz:B2 g d v=D3 (g.getD v []) (fnd (DV g d v) 0 (g.getD v []).length):=rfl
 have hP:∀i,DV g d v i=(decide (0<d.getD v 0)&&(d.getD ((g.getD v []).getD i 0).toNat 0==d.getD v 0-1)):=fun i=>rfl
 have hfs:=QU g d v hv
 have hfl:=Mi g d v
 generalize DV g d v=pp at hz hP
 generalize g.getD v []=r at hr1 hrow hget hP hz
 rw[hz] at hfs
 have fin:∀cur,cur=D3 r (fnd pp 0 r.length)->∀st,Ren 0 st (EV (qw g s d (v+1) 0 0 [] ((Bu g d v).set v cur) 0 0))->R st:=by
  intro cur hc st hst
  rw[hc,hfs] at hst
  exact hR st hst
 have lenS:∀cur:Int,((Bu g d v).set v cur).length=g.length:=by intro cur;simp[hfl]
 have wv:i64.wrap (iN v+1)=((v+1:Nat):Int):=zW v (by omega)
 refine T.loop (fun i:Nat=>Fe (qw g s d v 0 i r ((Bu g d v).set v (D3 r (fnd pp i (r.length-i)))) 0 0)) (fun i=>i<=r.length) (fun i=>i) r.length ?_ ?_ |> fun h=>by
  simpa [fnd,D3] using h
 .exact SJ _
 intro i hi
 by_cases h0:0<i
 .have hik:decide (0<=iN i-1)=true:=SE (by simp only[iN];omega)
  by_cases hp:0<d.getD v 0
  .obtain⟨w,hw,hw1,hw2⟩:=hget (i-1) (by omega)
   have hg1:=Bp (l:=r) (j:=i-1) (by omega)
   rw[hw] at hg1
   have hidx:(iN i-1).toNat=i-1:=by simp only[iN];omega
   have hw3:=Bp (l:=d) (j:=w) (by omega)
   have hpi:=hP (i-1)
   rw[hw,SH,SE hp,Bool.true_and] at hpi
   obtain⟨m,hm⟩:∃m:Nat,d.getD v 0=(m:Int):=⟨(d.getD v 0).toNat,by omega⟩
   have hwr:i64.wrap (d.getD v 0-1)=d.getD v 0-1:=by rw[hm,E5 m (by omega) (by omega)];omega
   have hwi:i64.wrap (iN i-1-1)=iN (i-1)-1:=by
    by_cases h1:1<i
    .have:=E5 (i-1) (by omega) (by omega)
     have e:iN i-1-1=((i-1:Nat):Int)-1:=by simp only[iN];omega
     rw[e,this];simp only[iN];omega
    .obtain rfl:i=1:=by omega
     exact A6 _ (by decide) (by decide)
   have hf:fnd pp (i-1) (r.length-(i-1))=(match pp (i-1) with | true=>some (i-1) | false=>fnd pp i (r.length-i)):=by
    have:=CN (p:=pp) (s:=i-1) (k:=r.length) (by omega)
    rwa [show i-1+1=i by omega] at this
   by_cases he:(d.getD w 0==d.getD v 0-1)=true
   .rw[he] at hpi
    refine T.path mix (rhbr_0 ⟨g,s,d,v,w,0,i,r,d.getD v 0,d.getD w 0,false,0,(Bu g d v).set v (D3 r (fnd pp i (r.length-i))),[]⟩ hik (by simp[iN]) hv1 (SE hp) hrow (by simp only[iN];omega) (by simp only[hidx];exact hg1) (by simp[iN]) hw3 (by simp only[hwr];exact he) (by simp[iN,hfl];omega) (by simp[iN,hfl];omega) ?_)
    intro st hst
    refine⟨i-1,?_,by omega,by omega⟩
    simp only[iN,SH] at hst hwi
    rw[hwi,map_set,set_set'] at hst
    rw[hf,hpi]
    simp only[S6] at hst
    unfold Fe qw
    simp only[S6]
    show Ren 0 st {n:=_,fr:=_,hp:=[some (dB ((Bu g d v).set v (r.getD (i-1) 0)))]}
    rw[hw]
    exact hst
   .have he:=Tk.2 he
    rw[he] at hpi
    refine T.path mix (rhbr_1 ⟨g,s,d,v,w,0,i,r,d.getD v 0,d.getD w 0,false,0,(Bu g d v).set v (D3 r (fnd pp i (r.length-i))),[]⟩ hik (by simp[iN]) hv1 (SE hp) hrow (by simp only[iN];omega) (by simp only[hidx];exact hg1) (by simp[iN]) hw3 (by simp only[hwr];exact he) ?_)
    intro st hst
    refine⟨i-1,?_,by omega,by omega⟩
    simp only[iN] at hst hwi
    rw[hwi] at hst
    rw[hf,hpi]
    exact hst
  .have hall:∀j n',fnd pp j n'=none:=fun j n'=>Gu fun k _ _=>by rw[hP k,SD hp,Bool.false_and]
   refine T.out mix (rhbx_0 ⟨g,s,d,v,0,0,i,r,d.getD v 0,0,false,0,(Bu g d v).set v (D3 r (fnd pp i (r.length-i))),[]⟩ hik (by simp[iN]) hv1 (SD hp) ?_)
   intro st hst
   simp only[wv] at hst
   refine fin (D3 r (fnd pp i (r.length-i))) (by rw[hall,hall]) st hst
 .obtain rfl:i=0:=by omega
  refine T.out mix (rhbx_1 ⟨g,s,d,v,0,0,0,r,0,0,false,0,(Bu g d v).set v (D3 r (fnd pp 0 (r.length-0))),[]⟩ (by simp[iN]) ?_)
  intro st hst
  simp only[wv] at hst
  exact fin _ rfl st hst
theorem rhops_ct{g:List (List Int)}{s:List Bool}(hg:OkG g s)(goal:Nat)(hgo:goal<g.length):CT Try.prog 143 [] [.lst (gL g),.lst (boL s),.int .i64 (goal:Nat)] [] (lI (BE g (AA g s goal g.length))):=by
 have hgl:=hg.len
 have hl:=BJ g
 have c0:=Lf hg goal hgo
 rw[La hg hgo] at c0
 have hdl:=Oc g s goal g.length
 have hsm:=Ou g s goal g.length (by omega)
 generalize AA g s goal g.length=d at c0 hdl hsm
 refine CT.path mix Try.func143 (show Try.f143.body=some (zB Try.f143) by kernel_rfl) (nL rfl) (rh_0 ⟨g,s,d,goal,0,0,0,[],0,0,false,0,[],[]⟩ c0 (Int.le_refl _) (by simp only[iN,hl];omega) (by simp only[iN,hl];omega) ?_)
 have key:T Try.prog 0 (.loop (zC (zB Try.f143) 0)) (EV (qw g s d 0 0 0 [] (Bu g d 0) 0 0)) (TK Try.prog 0 (Fin Try.prog Try.f143 0 [] (lI (BE g d))) (zK (zB Try.f143) 0)):=by
  refine T.loop (fun v:Nat=>EV (qw g s d v 0 0 [] (Bu g d v) 0 0)) (fun v=>v<=g.length) (fun v=>g.length+1-v) 0 (SK _) ?_
  intro v hv
  have hfl:=Mi g d v
  by_cases h:v<g.length
  .have hr1:=(hg.row v h).1
   have ew:i64.wrap (iN ((g.getD v []).map (AV.int .i64)).length-1)=iN (g.getD v []).length-1:=by
    rw[BW]
    by_cases h1:0<(g.getD v []).length
    .have:=E5 _ h1 (by omega)
     simp only[iN];rw[this];omega
    .rw[show (g.getD v []).length=0 by omega];exact A6 _ (by decide) (by decide)
   refine T.path mix (rhi_0 (qw g s d v 0 0 (g.getD v []) (Bu g d v) 0 0) (SE (by simp only[iN,qw,hl];omega)) (by simp[iN]) (by simp[iN,qw,hfl];omega) (by simp[iN,qw,hfl];omega) (CQ h) ?_)
   have k:=rhb_run hg d hdl hsm v h (R:=fun st'=>∃j,Ren 0 st' (EV (qw g s d j 0 0 [] (Bu g d j) 0 0))/\j<=g.length/\g.length+1-j<g.length+1-v) (post:=TK Try.prog 0 (Fin Try.prog Try.f143 0 [] (lI (BE g d))) (zK (zB Try.f143) 0)) fun st hst=>⟨v+1,hst,h,by omega⟩
   simp only[qw,ew]
   rw[show (iN v).toNat=v from rfl,map_set]
   unfold Fe qw at k
   simp only[S6] at k
   exact k
  .obtain rfl:v=g.length:=by omega
   have k:=rhx_0 (qw g s d g.length 0 0 [] (Bu g d g.length) 0 0) (SD (by simp only[iN,qw,hl];omega)) (by simp[qw])
   rw[<-fillH_n]
   exact T.out mix k
 unfold EV qw dB at key
 simp only[Mi,Oy g d] at key
 simp only[hl,Oy g d]
 exact key
def upd(m:Nat->Bool)(w:Nat):Nat->Bool:=fun i=>if i=w then true else m i
def cnt(m:Nat->Bool):Nat->Nat
 | 0=>0
 | n+1=>cnt m n+if m n=true then 0 else 1
theorem PG(m:Nat->Bool)(w:Nat):∀n,n<=w->cnt (upd m w) n=cnt m n:=by
 intro n
 induction n with
 | zero=>intro _;rfl
 | succ n ih=>intro h;rw[cnt,cnt,ih (by omega)];simp[upd,show n≠w by omega]
theorem cnt_upd(m:Nat->Bool)(w:Nat)(hm:m w=false):∀n,w<n->cnt (upd m w) n+1=cnt m n:=by
 intro n
 induction n with
 | zero=>intro h;omega
 | succ n ih=>
  intro h
  rw[cnt,cnt]
  by_cases e:n=w
  .subst e;rw[PG m n n (SJ _),hm];simp[upd]
  .have:=ih (by omega)
   simp only[upd,e,if_false] at this ⊢
   omega
def Clo(g:List (List Int))(s:List Bool)(C:Nat->Prop):Prop:=∀u,u<g.length->C u->∀w∈g.getD u [],s.getD w.toNat false=false->C w.toNat
def Rch(g:List (List Int))(s:List Bool)(v u:Nat):Prop:=s.getD v false=false/\∀C:Nat->Prop,C v->Clo g s C->C u
theorem Rch.step{g:List (List Int)}{s:List Bool}{v u:Nat}(h:Rch g s v u)(hu:u<g.length){w:Int}(hw:w∈g.getD u [])(ho:s.getD w.toNat false=false):Rch g s v w.toNat:=
 ⟨h.1,fun C hv hc=>hc u hu (h.2 C hv hc) w hw ho⟩
theorem Rch.refl{g:List (List Int)}{s:List Bool}{v:Nat}(h:s.getD v false=false):Rch g s v v:=⟨h,fun _ hv _=>hv⟩
theorem Rch.lt{g:List (List Int)}{s:List Bool}(hg:OkG g s){v u:Nat}(hv:v<g.length)(h:Rch g s v u):u<g.length:=
 h.2 (· < g.length) hv fun x hx _ w hw _=>by have:=(hg.row x hx).2 w hw;omega
def BX(r:List Int)(i:Nat):Int:=if i=0 then -1 else r.getD (i-1) 0
theorem Qa{r:List Int}{i:Nat}:BX r (i+1)=r.getD i 0:=by unfold BX;simp
def Lv(g:List (List Int))(s:List Bool)(m:Nat->Bool)(u:Nat):Prop:=∀w∈g.getD u [],s.getD w.toNat false=false->m w.toNat=true
theorem Lv.upd{g:List (List Int)}{s:List Bool}{m:Nat->Bool}{u:Nat}(h:Lv g s m u)(w:Nat):Lv g s (upd m w) u:=fun x hx ho=>by unfold Go.Proofs.Ytedjkebooffjpaa.upd;rw[h x hx ho];simp
def Is(d:List Int)(n:Nat):Nat:=cnt (fun v=>decide (0<=d.getD v 0)) n
theorem cntD_set{d:List Int}{v:Nat}{x:Int}(hv:v<d.length)(hd:d.getD v 0<0)(hx:0<=x){n:Nat}(hn:v<n):Is (d.set v x) n+1=Is d n:=by
 have e:(fun u=>decide (0<=(d.set v x).getD u 0))=upd (fun u=>decide (0<=d.getD u 0)) v:=by
  funext u
  rw[IM d v u x hv]
  unfold upd
  by_cases h:u=v
  .subst h;simp[hx]
  .rw[Sx (fun e=>h e.symm),Sx h]
 unfold Is
 rw[e]
 exact cnt_upd _ v (SD (by omega)) n hn
structure Bf(g:List (List Int))(s:List Bool)(goal:Nat)(d o:List Int):Prop where
 len:d.length=g.length
 zero:d.getD goal 0=0
 neg:∀v,v<g.length->-1<=d.getD v 0
 que:∀x∈o,∃u:Nat,x=(u:Int)/\u<g.length/\0<=d.getD u 0
 srt:o.Pairwise fun a b=>d.getD a.toNat 0<=d.getD b.toNat 0
 back:∀v,v<g.length->0<=d.getD v 0->v=goal\/(s.getD v false=false/\∃w∈g.getD v [],0<=d.getD w.toNat 0/\d.getD v 0=d.getD w.toNat 0+1)
 bnd:∀v,v<g.length->d.getD v 0+(Is d g.length:Nat)<g.length
 mea:o.length+Is d g.length<=g.length
def Jg(g:List (List Int))(s:List Bool)(d:List Int)(u:Nat):Prop:=∀v,v<g.length->s.getD v false=false->(u:Int)∈g.getD v []->0<=d.getD v 0/\d.getD v 0<=d.getD u 0+1
structure Bm(g:List (List Int))(s:List Bool)(goal:Nat)(d o:List Int)(w k:Nat):Prop where
 bf:Bf g s goal d o
 wl:w<g.length
 pos:0<=d.getD w 0
 le:∀v,v<g.length->d.getD v 0<=d.getD w 0+1
 ge:∀x∈o,d.getD w 0<=d.getD x.toNat 0
 cls:∀u,u<g.length->0<=d.getD u 0->(u:Int)∈o\/u=w\/Jg g s d u
 don:∀v,v<k->v<g.length->s.getD v false=false->(w:Int)∈g.getD v []->0<=d.getD v 0
structure Bo(g:List (List Int))(s:List Bool)(goal:Nat)(d o:List Int):Prop where
 bf:Bf g s goal d o
 le:∀x∈o,∀v,v<g.length->d.getD v 0<=d.getD x.toNat 0+1
 cls:∀u,u<g.length->0<=d.getD u 0->(u:Int)∈o\/Jg g s d u
theorem Bm.skip{g:List (List Int)}{s:List Bool}{goal:Nat}{d o:List Int}{w k:Nat}(h:Bm g s goal d o w k)(hk:0<=d.getD k 0\/s.getD k false=true\/(w:Int)∉g.getD k []):Bm g s goal d o w (k+1):=
 ⟨h.bf,h.wl,h.pos,h.le,h.ge,h.cls,fun v hv hvl hs hm=>by
  by_cases e:v=k
  .subst e
   rcases hk with h1 | h1 | h1
   .exact h1
   .rw[hs] at h1;cases h1
   .exact absurd hm h1
  .exact h.don v (by omega) hvl hs hm⟩
theorem Bm.push{g:List (List Int)}{s:List Bool}{goal:Nat}{d o:List Int}{w k:Nat}(h:Bm g s goal d o w k)(hk:k<g.length)(hd:d.getD k 0<0)(hs:s.getD k false=false)(hm:(w:Int)∈g.getD k []):
  Bm g s goal (d.set k (d.getD w 0+1)) (o++[(k:Int)]) w (k+1):=by
 have hkl:k<d.length:=by rw[h.bf.len];exact hk
 have gs:=fun u=>IM d k u (d.getD w 0+1) hkl
 have hne:∀u,0<=d.getD u 0->(d.set k (d.getD w 0+1)).getD u 0=d.getD u 0:=by
  intro u hu
  rw[gs,Sx (by rintro rfl;omega)]
 have hkk:(d.set k (d.getD w 0+1)).getD k 0=d.getD w 0+1:=by rw[gs,Sw rfl]
 have hgk:goal≠k:=by rintro rfl;rw[h.bf.zero] at hd;omega
 have hc:=cntD_set hkl hd (show 0<=d.getD w 0+1 by have:=h.pos;omega) hk
 have hw0:=hne w h.pos
 have hq:∀x∈o,(d.set k (d.getD w 0+1)).getD x.toNat 0=d.getD x.toNat 0:=by
  intro x hx
  obtain⟨u,rfl,_,hu⟩:=h.bf.que x hx
  exact hne _ (by simpa using hu)
 have hcls:∀u,u<g.length->0<=d.getD u 0->Jg g s d u->Jg g s (d.set k (d.getD w 0+1)) u:=by
  intro u _ hu hc v hv hsv hmv
  obtain⟨a,b⟩:=hc v hv hsv hmv
  rw[hne v a,hne u hu]
  exact⟨a,b⟩
 refine⟨⟨by rw[S6];exact h.bf.len,by rw[hne goal (by rw[h.bf.zero];omega)];exact h.bf.zero,fun v hv=>?_,fun x hx=>?_,?_,fun v hv h0=>?_,fun v hv=>?_,by simp only[SR,Td,Te];have:=h.bf.mea;omega⟩,h.wl,by rw[hw0];exact h.pos,fun v hv=>?_,fun x hx=>?_,fun u hu h0=>?_,fun v hv hvl hsv hmv=>?_⟩
 .rw[gs];split
  .have:=h.pos;omega
  .exact h.bf.neg v hv
 .rcases S2.1 hx with hx | hx
  .obtain⟨u,rfl,hu1,hu2⟩:=h.bf.que x hx
   exact⟨u,rfl,hu1,by rw[hne u hu2];exact hu2⟩
  .simp only[Sn] at hx
   exact⟨k,hx,hk,by rw[hkk];have:=h.pos;omega⟩
 .rw[List.pairwise_append]
  refine⟨h.bf.srt.imp_of_mem fun {a b} ha hb hab=>by rw[hq a ha,hq b hb];exact hab,by simp,fun a ha b hb=>?_⟩
  simp only[Sn] at hb
  subst hb
  rw[hq a ha,SH,hkk]
  obtain⟨u,rfl,hu,_⟩:=h.bf.que a ha
  rw[SH]
  exact h.le u hu
 .by_cases e:v=k
  .subst e
   refine .inr ⟨hs,(w:Int),hm,?_,?_⟩
   .rw[SH,hw0];exact h.pos
   .rw[SH,hw0,hkk]
  .have e2:(d.set k (d.getD w 0+1)).getD v 0=d.getD v 0:=by rw[gs,Sx (fun e'=>e e'.symm)]
   rw[e2] at h0 ⊢
   rcases h.bf.back v hv h0 with h1 | ⟨h1,x,hx,h2,h3⟩
   .exact .inl h1
   .exact .inr ⟨h1,x,hx,by rw[hne _ h2];exact h2,by rw[hne _ h2];exact h3⟩
 .rw[gs];split
  .have:=h.bf.bnd w h.wl;omega
  .have:=h.bf.bnd v hv;omega
 .rw[hw0,gs];split
  .exact Int.le_refl _
  .exact h.le v hv
 .rw[hw0]
  rcases S2.1 hx with hx | hx
  .rw[hq x hx];exact h.ge x hx
  .simp only[Sn] at hx
   rw[hx,SH,hkk];omega
 .by_cases e:u=k
  .exact .inl (by rw[e];simp)
  .have e2:(d.set k (d.getD w 0+1)).getD u 0=d.getD u 0:=by rw[gs,Sx (fun e'=>e e'.symm)]
   rw[e2] at h0
   rcases h.cls u hu h0 with h1 | h1 | h1
   .exact .inl (List.mem_append_left _ h1)
   .exact .inr (.inl h1)
   .exact .inr (.inr (hcls u hu h0 h1))
 .by_cases e:v=k
  .subst e;rw[hkk];have:=h.pos;omega
  .have:=h.don v (by omega) hvl hsv hmv
   rw[hne v this];exact this
theorem Bm.fin{g:List (List Int)}{s:List Bool}{goal:Nat}{d o:List Int}{w:Nat}(h:Bm g s goal d o w g.length):Bo g s goal d o:=by
 refine⟨h.bf,fun x hx v hv=>?_,fun u hu h0=>?_⟩
 .have h1:=h.le v hv
  have h2:=h.ge x hx
  omega
 .rcases h.cls u hu h0 with h1 | h1 | h1
  .exact .inl h1
  .exact .inr (by rw[h1];exact fun v hv hs hm=>⟨h.don v hv hv hs hm,h.le v hv⟩)
  .exact .inr h1
theorem Bo.dst{g:List (List Int)}{s:List Bool}(hg:OkG g s){goal:Nat}(hs:s.getD goal false=false){d:List Int}(h:Bo g s goal d []):Dst g s goal d:=by
 refine⟨h.bf.len,fun h'=>(by rw[hs] at h';cases h'),fun _=>h.bf.zero,fun v hv=>⟨h.bf.neg v hv,by have:=h.bf.bnd v hv;omega⟩,h.bf.back,fun v hv hsv w hw h0=>?_⟩
 have hr:=(hg.row v hv).2 w hw
 rcases h.cls w.toNat (by omega) h0 with h1 | h1
 .cases h1
 .exact h1 v hv hsv (by rw[SZ hr.1];exact hw)
theorem shM{g:List (List Int)}{s:List Bool}{goal a:Nat}{d:List Int}(hD:Dst g s goal d)(ha:a<g.length)(h0:0<=d.getD a 0):s.getD goal false=false:=by
 cases h:s.getD goal false with
 | false=>rfl
 | true=>have:=hD.shut h a ha;omega
theorem Dst.le{g:List (List Int)}{s:List Bool}(hg:OkG g s){goal:Nat}{d e:List Int}(hD:Dst g s goal d)(hE:Dst g s goal e):∀(m v:Nat),v<g.length->d.getD v 0=(m:Int)->0<=e.getD v 0/\e.getD v 0<=(m:Int):=by
 intro m
 induction m with
 | zero=>
  intro v hv hm
  rcases hD.back v hv (by omega) with rfl | ⟨_,w,_,h1,h2⟩
  .rw[hE.zero (shM hD hv (by omega))];exact⟨Int.le_refl _,Int.le_refl _⟩
  .omega
 | succ m ih=>
  intro v hv hm
  rcases hD.back v hv (by omega) with rfl | ⟨ho,w,hw,h1,h2⟩
  .rw[hE.zero (shM hD hv (by omega))];omega
  .have hr:=(hg.row v hv).2 w hw
   obtain⟨a,b⟩:=ih w.toNat (by omega) (by omega)
   obtain⟨a',b'⟩:=hE.fwd v hv ho w hw a
   exact⟨a',by omega⟩
def J4(d:List Int)(b w:Int):Int:=if 0<=d.getD w.toNat 0 then (if b<0 then w else if d.getD w.toNat 0<d.getD b.toNat 0 then w else b) else b
def Cp(d r:List Int):Nat->Int
 | 0=> -1
 | i+1=>J4 d (Cp d r i) (r.getD i 0)
def BestOk(d r:List Int)(i:Nat)(b:Int):Prop:=(b = -1/\∀j,j<i->d.getD (r.getD j 0).toNat 0<0)\/
 ∃k,k<i/\b=r.getD k 0/\0<=d.getD (r.getD k 0).toNat 0/\(∀j,j<i->0<=d.getD (r.getD j 0).toNat 0->d.getD (r.getD k 0).toNat 0<=d.getD (r.getD j 0).toNat 0)/\∀j,j<k->0<=d.getD (r.getD j 0).toNat 0->d.getD (r.getD k 0).toNat 0<d.getD (r.getD j 0).toNat 0
theorem MX{d r:List Int}(h0:∀j,j<r.length->0<=r.getD j 0):∀i,i<=r.length->BestOk d r i (Cp d r i):=by
 intro i
 induction i with
 | zero=>intro _;exact .inl ⟨rfl,fun j hj=>by omega⟩
 | succ i ih=>
  intro hi
  have ih:=ih (by omega)
  rw[Cp]
  generalize Cp d r i=b at ih
  unfold J4
  by_cases c1:0<=d.getD (r.getD i 0).toNat 0
  .rw[Sw c1]
   rcases ih with ⟨rfl,hn⟩ | ⟨k,hk,rfl,hk0,hmin,hfst⟩
   .rw[Sw (by decide)]
    refine .inr ⟨i,by omega,rfl,c1,fun j hj hj0=>?_,fun j hj hj0=>?_⟩
    .by_cases e:j=i
     .rw[e];exact Int.le_refl _
     .have:=hn j (by omega);omega
    .have:=hn j (by omega);omega
   .have:=h0 k (by omega)
    rw[Sx (by omega)]
    by_cases c2:d.getD (r.getD i 0).toNat 0<d.getD (r.getD k 0).toNat 0
    .rw[Sw c2]
     refine .inr ⟨i,by omega,rfl,c1,fun j hj hj0=>?_,fun j hj hj0=>?_⟩
     .by_cases e:j=i
      .rw[e];exact Int.le_refl _
      .have:=hmin j (by omega) hj0;omega
     .have:=hmin j (by omega) hj0;omega
    .rw[Sx c2]
     refine .inr ⟨k,by omega,rfl,hk0,fun j hj hj0=>?_,hfst⟩
     by_cases e:j=i
     .rw[e];omega
     .exact hmin j (by omega) hj0
  .rw[Sx c1]
   rcases ih with ⟨rfl,hn⟩ | ⟨k,hk,rfl,hk0,hmin,hfst⟩
   .refine .inl ⟨rfl,fun j hj=>?_⟩
    by_cases e:j=i
    .rw[e];omega
    .exact hn j (by omega)
   .refine .inr ⟨k,by omega,rfl,hk0,fun j hj hj0=>?_,hfst⟩
    by_cases e:j=i
    .rw[e] at hj0;omega
    .exact hmin j (by omega) hj0
theorem Oe{g:List (List Int)}{s:List Bool}(hg:OkG g s){v:Nat}(hv:v<g.length):∀j,j<(g.getD v []).length->0<=(g.getD v []).getD j 0:=fun j hj=>by
 obtain⟨w,hw,_⟩:=FF hg hv hj;omega
theorem row_mem{g:List (List Int)}{v j:Nat}(hj:j<(g.getD v []).length):(g.getD v []).getD j 0∈g.getD v []:=by
 rw[Sz (l:=g.getD v []),Sy hj]
 exact S4 hj
theorem O8{g:List (List Int)}{v:Nat}{w:Int}(h:w∈g.getD v []):∃j,j<(g.getD v []).length/\(g.getD v []).getD j 0=w:=by
 obtain⟨j,hj,e⟩:=Ta.1 h
 exact⟨j,hj,by rw[Sz (l:=g.getD v []),Sy hj];exact e⟩
def thD(g:List (List Int))(d:List Int)(v:Nat)(b:Int):List Int:=if b<0 then [] else (v:Int)::(List.range (d.getD b.toNat 0).toNat).map (wkZ g d b.toNat)
def thZ(g:List (List Int))(s:List Bool)(v:Nat):List Int:=if s.getD v false=true then [] else thD g (AA g s v g.length) v (Cp (AA g s v g.length) (g.getD v []) (g.getD v []).length)
theorem chk_ok{g:List (List Int)}{s:List Bool}(hrw:Rows g){v w:Int}(h:C2 g s v w=0):OkG g s/\Asc g/\(0<=v/\v<(g.length:Int))/\(0<=w/\w<(g.length:Int)):=by
 unfold C2 at h
 by_cases h1:24<g.length
 .rw[Sw h1] at h;cases h
 rw[Sx h1] at h
 by_cases h2:Da g=true
 .rw[Sw h2] at h;cases h
 rw[Sx h2] at h
 by_cases h3:s.length≠g.length\/v<0\/(g.length:Int)<=v\/w<0\/(g.length:Int)<=w
 .rw[Sw h3] at h;cases h
 have hs:s.length=g.length:=Decidable.byContradiction fun e=>h3 (.inl e)
 have hv0:¬v<0:=fun e=>h3 (.inr (.inl e))
 have hv1:¬(g.length:Int)<=v:=fun e=>h3 (.inr (.inr (.inl e)))
 have hw0:¬w<0:=fun e=>h3 (.inr (.inr (.inr (.inl e))))
 have hw1:¬(g.length:Int)<=w:=fun e=>h3 (.inr (.inr (.inr (.inr e))))
 have hb:∀a,a<g.length->∀i,i<(g.getD a []).length->AI (g.getD a []) g.length a i=false:=by
  intro a ha i hi
  have e1:fnd (Cw g) 0 g.length=none:=by unfold Da at h2;simpa using h2
  have e2:=CB e1 a (SK _) (by omega)
  unfold Cw at e2
  have e3:fnd (AI (g.getD a []) g.length a) 0 (g.getD a []).length=none:=by simpa using e2
  exact CB e3 i (SK _) (by omega)
 refine⟨⟨by omega,fun a ha=>⟨hrw a ha,fun x hx=>?_⟩,hs⟩,fun a ha i h0 hi=>?_,⟨by omega,by omega⟩,⟨by omega,by omega⟩⟩
 .obtain⟨i,hi,rfl⟩:=Ta.1 hx
  have hbad:=hb a ha i hi
  have e:(g.getD a []).getD i 0=(g.getD a [])[i]:=by rw[Sz (l:=g.getD a []),Sy hi];rfl
  unfold AI at hbad
  rw[e] at hbad
  simp only[Bool.or_eq_false_iff,decide_eq_false_iff_not,S8,ne_eq] at hbad
  exact⟨by omega,by omega,hbad.2.2.1⟩
 .have hbad:=hb a ha i hi
  unfold AI at hbad
  rw[SE h0,Bool.true_and] at hbad
  simp only[Bool.or_eq_false_iff,decide_eq_false_iff_not] at hbad
  omega
def Ac(g:List (List Int))(s:List Bool)(v w:Int):List Int×Int:=
 if C2 g s v w=0 then (if (AA g s w.toNat g.length).getD v.toNat 0<0 then ([],0) else (wkL g (AA g s w.toNat g.length) v.toNat ((AA g s w.toNat g.length).getD v.toNat 0).toNat,0)) else ([],C2 g s v w)
theorem toN{v:Int}(h:0<=v):((v.toNat:Nat):Int)=v:=SZ h
theorem shutNeg{g:List (List Int)}{s:List Bool}{goal a:Nat}{d:List Int}(hD:Dst g s goal d)(ha:a<g.length)(h0:0<=d.getD a 0):s.getD goal false=false:=by
 cases h:s.getD goal false with
 | false=>rfl
 | true=>have:=hD.shut h a ha;omega
theorem first_ct{g:List (List Int)}{s:List Bool}(hg:OkG g s)(a goal:Nat)(hal:a<g.length)(hgo:goal<g.length):CT Try.prog 126 [] [.lst (gL g),.lst (boL s),.int .i64 (a:Nat),.int .i64 (goal:Nat)] [] (lI (if (AA g s goal g.length).getD a 0<0 then [] else wkL g (AA g s goal g.length) a ((AA g s goal g.length).getD a 0).toNat)):=by
 have hb:Try.f126.body=some (zB Try.f126):=by kernel_rfl
 have hn:[AV.lst (gL g),.lst (boL s),.int .i64 (a:Nat),.int .i64 (goal:Nat)].length<=Try.f126.ntmps:=nL rfl
 have hgl:=hg.len
 have cd:=Lf hg goal hgo
 rw[La hg hgo] at cd
 have ch:=rhops_ct hg goal hgo
 have hD:=E4 hg hgo
 have hbd:=hD.bnd a hal
 generalize AA g s goal g.length=d at cd ch hD hbd
 have hda:=Bp (l:=d) (j:=a) (by rw[hD.len];exact hal)
 by_cases hneg:d.getD a 0<0
 .rw[Sw hneg]
  exact CT.pathW mix Try.func126 hb hn (rfn_0 ⟨g,s,d,a,goal,0,0,[],d.getD a 0,0,false,0,[],[]⟩ cd (by simp[iN]) hda (SE hneg)) rfl
 .rw[Sx hneg]
  obtain⟨m,hm⟩:∃m:Nat,d.getD a 0=(m:Int):=⟨(d.getD a 0).toNat,(toN (by omega)).symm⟩
  have hgd:=shutNeg hD hal (by omega)
  have hok:=I7 hg hgo hD hal hm hgd
  rw[hm,SH]
  refine CT.path mix Try.func126 hb hn (rf_0 ⟨g,s,d,a,goal,0,0,[],d.getD a 0,0,false,0,BE g d,[]⟩ cd (by simp[iN]) hda (SD hneg) ch ?_)
  have key:T Try.prog 0 (.loop (zC (zB Try.f126) 0)) (Gl ⟨g,s,d,(wkZ g d a 0).toNat,goal,0,0,wkL g d a 0,0,0,false,0,BE g d,[]⟩) (TK Try.prog 0 (Fin Try.prog Try.f126 0 [] (lI (wkL g d a m))) (zK (zB Try.f126) 0)):=by
   refine T.loop (fun k:Nat=>Gl ⟨g,s,d,(wkZ g d a k).toNat,goal,0,k,wkL g d a k,0,0,false,0,BE g d,[]⟩) (fun k=>k<=m) (fun k=>m+1-k) 0 (SK _) ?_
   intro k hk
   obtain⟨w1,w2,w3⟩:=hok k hk
   have hlen:=IH g d a k
   by_cases h:k<m
   .obtain⟨x1,x2,x3⟩:=hok (k+1) h
    have hne:(wkZ g d a k).toNat≠goal:=by
     intro e;rw[e,hD.zero hgd] at w3;omega
    have hgt:(BE g d).getD (wkZ g d a k).toNat 0=wkZ g d a (k+1):=by
     have hlt:(wkZ g d a k).toNat<g.length:=by omega
     simp[BE,Sz,SV hlt,wkZ]
    have hg2:=Bp (l:=BE g d) (j:=(wkZ g d a k).toNat) (by simp[BE];omega)
    rw[hgt,<-toN x1] at hg2
    refine T.path mix (rfe_0 ⟨g,s,d,(wkZ g d a k).toNat,goal,(wkZ g d a (k+1)).toNat,k,wkL g d a k,0,0,false,0,BE g d,[]⟩ (by simp[iN];omega) (Int.natCast_nonneg _) hg2 (by simp[hlen]) (by simp) (by simp[hlen];omega) (by simp[hlen];omega) ?_)
    intro st hst
    refine⟨k+1,?_,h,by omega⟩
    have e2:∀y:AV,((wkL g d a k).map (AV.int .i64)).length+[y].length=k+1+1:=by intro y;simp[hlen]
    have e3:(wkL g d a (k+1)).map (AV.int .i64)=(wkL g d a k).map (AV.int .i64)++[.int .i64 (((wkZ g d a (k+1)).toNat:Nat):Int)]:=by
     rw[Nm,SL,toN x1];rfl
    simp only[e2] at hst
    show Ren 0 st (Gl ⟨g,s,d,(wkZ g d a (k+1)).toNat,goal,0,k+1,wkL g d a (k+1),0,0,false,0,BE g d,[]⟩)
    unfold Gl dB
    simp only[e3]
    exact hst
   .obtain rfl:k=m:=by omega
    have he:(wkZ g d a k).toNat=goal:=JR hD (by omega) (by rw[w3];omega)
    exact T.out mix (rfex_0 ⟨g,s,d,(wkZ g d a k).toNat,goal,0,k,wkL g d a k,0,0,false,0,BE g d,[]⟩ (by simp[iN,he]) (by simp[hlen]))
  exact key
structure QE where
 g:List (List Int)
 s:List Bool
 v:Int
 p:List Int
 o:List Int
 d:List Int
 r:List Int
 e:Int
 i:Nat
 a:Nat
 w:Nat
 x:Int
 y:Int
 z:Int
 bz:Int
 b:Bool
 sb:Bool
def cE(q:QE):Nat->FuncId->List AV->List (Option Blk)->AH:=fun dst f args hp=>match f with
 | 134=>.call [] [] [] (.int .i64 q.e)
 | 135=>.call [] [] [] (lI q.p)
 | 26=>.call [] [] [] (.bool q.b)
 | 125=>.call [] [] [] (lI q.d)
 | 126=>.call [] [] [] (lI q.p)
 | _=>.no
def eN(q:QE):List (Nat×AV):=[]
def st13(q:QE):St:={n:=Try.f103.ntmps,fr:=[(0,.lst (gL q.g)),(1,.lst (boL q.s))],hp:=[]}
def Fa(q:QE):St:={n:=Try.f103.ntmps,fr:=[(0,.lst (gL q.g)),(1,.lst (boL q.s)),(8,lI q.o),(9,.int .i64 (iN q.i))],hp:=[]}
def st26(q:QE):St:={n:=Try.f135.ntmps,fr:=[(0,.lst (gL q.g)),(1,.lst (boL q.s)),(2,.int .i64 (iN q.a))],hp:=[]}
def Ej(q:QE):St:={n:=Try.f135.ntmps,fr:=[(0,.lst (gL q.g)),(1,.lst (boL q.s)),(2,.int .i64 (iN q.a)),(7,lI q.d),(8,.int .i64 q.bz),(9,.int .i64 (iN q.i))],hp:=[]}
def e26(q:QE):List (Nat×AV):=[(14,.bool q.sb),(23,lI q.r),(31,lI q.r),(34,.int .i64 (iN q.w)),(38,.int .i64 q.x),(47,.int .i64 q.x),(51,.int .i64 q.y)]
theorem rgi_0(q:QE)(h1:(CT Try.prog 134 [] [AV.lst (gL q.g),AV.lst (boL q.s)] [] (iv q.e)))(h2:((q.e != 0)=true)):GoP Try.prog (hU [31] (eN q) (cE q)) 0 (zB Try.f103) (st13 q) (Fin Try.prog Try.f103 0 [] (AV.tup [iv 0,AV.nils,iv q.e])):=
 zF (σ:=[]) (fz:=[]) (by kernel_rfl) (aj (aj t4 (aj (u2 (u2 (aj (ak (k3 (al h1))) s2))) (aj (u2 s2) (aj h2 (al (u2 (k2 s2))))))) (al t4))
theorem rgi_1(q:QE)(h1:(CT Try.prog 134 [] [AV.lst (gL q.g),AV.lst (boL q.s)] [] (iv q.e)))(h2:((q.e != 0)=false)){post:Exit->St->Prop}(ht:T Try.prog 0 (.loop (zC (zB Try.f103) 0)) (St.mk 46 [(0,AV.lst (gL q.g)),(1,AV.lst (boL q.s)),(8,AV.nils),(9,iv 0)] []) (TK Try.prog 0 post (zK (zB Try.f103) 0))):GoP Try.prog (hU [30] (eN q) (cE q)) 0 (zB Try.f103) (st13 q) post:=
 zR (σ:=[]) (fz:=[]) (vars:=[0,1,8,9]) (by kernel_rfl) (aj (aj t4 (aj (u2 (u2 (aj (ak (k3 (al h1))) s2))) (aj (u2 s2) (aj h2 (u2 s2))))) t5) ht
theorem rgx_0(q:QE)(h1:(decide (iN q.i<iN (gL q.g).length)=false)):GoO Try.prog (hU [40] (eN q) (cE q)) 0 (zC (zB Try.f103) 0) (zK (zB Try.f103) 0) (Fa q) (Fin Try.prog Try.f103 0 [] (AV.tup [iv (iN (List.map (iv) q.o).length),AV.lst (List.map (iv) q.o),iv 0])):=
 zF (σ:=[]) (fz:=[]) (by kernel_rfl) (aj (aj (aj (u2 (u2 (u2 (al t3)))) (al h1)) (al (u2 (u2 (u2 (u2 (u2 t2))))))) (al t4))
theorem rgr_0(q:QE)(h1:(decide (iN q.i<iN (gL q.g).length)=true))(h2:(CT Try.prog 135 [] [AV.lst (gL q.g),AV.lst (boL q.s),iv (iN q.i)] [] (AV.lst (List.map (iv) q.p))))(h3:(decide (0<iN (List.map (iv) q.p).length)=true))(h4:((iN (List.map (iv) q.o).length==0)=true)){post:Exit->St->Prop}{R:St->Prop}(hR:∀st,Ren 0 st (St.mk 46 [(0,AV.lst (gL q.g)),(1,AV.lst (boL q.s)),(8,AV.lst (List.map (iv) q.p)),(9,iv (i64.wrap (iN q.i+1)))] [])->R st):GoP Try.prog (hU [41,61,69] (eN q) (cE q)) 0 (zC (zB Try.f103) 0) (Fa q) (andThen R post):=
 zN (σ:=[]) (fz:=[]) (vars:=[0,1,8,9]) (by kernel_rfl) (aj (aj (u2 (u2 (u2 (al t3)))) (aj h1 (aj (u2 (u2 (u2 (aj (ak (k5 (al h2))) s2)))) (aj (u2 (u2 (u2 (u2 (ag h3 (ag h3 (ag h3 (ag h3 (aj h4 (aj h4 (aj h4 (aj h4 (aj h4 (aj (aj h3 (aj h4 t2)) (al (aj h3 t2)))))))))))))))) (ak (aj (u2 s2) (al (u2 (u2 s2))))))))) t5) hR
theorem rgr_1(q:QE)(h1:(decide (iN q.i<iN (gL q.g).length)=true))(h2:(CT Try.prog 135 [] [AV.lst (gL q.g),AV.lst (boL q.s),iv (iN q.i)] [] (AV.lst (List.map (iv) q.p))))(h3:(decide (0<iN (List.map (iv) q.p).length)=true))(h4:((iN (List.map (iv) q.o).length==0)=false))(h5:(decide (iN (List.map (iv) q.p).length<iN (List.map (iv) q.o).length)=true)){post:Exit->St->Prop}{R:St->Prop}(hR:∀st,Ren 0 st (St.mk 46 [(0,AV.lst (gL q.g)),(1,AV.lst (boL q.s)),(8,AV.lst (List.map (iv) q.p)),(9,iv (i64.wrap (iN q.i+1)))] [])->R st):GoP Try.prog (hU [41,61,68,83] (eN q) (cE q)) 0 (zC (zB Try.f103) 0) (Fa q) (andThen R post):=
 zN (σ:=[]) (fz:=[]) (vars:=[0,1,8,9]) (by kernel_rfl) (aj (aj (u2 (u2 (u2 (al t3)))) (aj h1 (aj (u2 (u2 (u2 (aj (ak (k5 (al h2))) s2)))) (aj (u2 (u2 (u2 (u2 (ag h3 (ag h3 (ag h3 (ag h3 (ag h4 (ag h4 (ag h4 (ag h4 (aj (aj h4 t3) (aj (aj h3 (aj h4 t2)) (al (aj h3 t2)))))))))))))))) (aj h5 (aj (u2 s2) (al (u2 (u2 s2))))))))) t5) hR
theorem rgr_2(q:QE)(h1:(decide (iN q.i<iN (gL q.g).length)=true))(h2:(CT Try.prog 135 [] [AV.lst (gL q.g),AV.lst (boL q.s),iv (iN q.i)] [] (AV.lst (List.map (iv) q.p))))(h3:(decide (0<iN (List.map (iv) q.p).length)=true))(h4:((iN (List.map (iv) q.o).length==0)=false))(h5:(decide (iN (List.map (iv) q.p).length<iN (List.map (iv) q.o).length)=false)){post:Exit->St->Prop}{R:St->Prop}(hR:∀st,Ren 0 st (St.mk 46 [(0,AV.lst (gL q.g)),(1,AV.lst (boL q.s)),(8,AV.lst (List.map (iv) q.o)),(9,iv (i64.wrap (iN q.i+1)))] [])->R st):GoP Try.prog (hU [41,61,68,82] (eN q) (cE q)) 0 (zC (zB Try.f103) 0) (Fa q) (andThen R post):=
 zN (σ:=[]) (fz:=[]) (vars:=[0,1,8,9]) (by kernel_rfl) (aj (aj (u2 (u2 (u2 (al t3)))) (aj h1 (aj (u2 (u2 (u2 (aj (ak (k5 (al h2))) s2)))) (aj (u2 (u2 (u2 (u2 (ag h3 (ag h3 (ag h3 (ag h3 (ag h4 (ag h4 (ag h4 (ag h4 (aj (aj h4 t3) (aj (aj h3 (aj h4 t2)) (al (aj h3 t2)))))))))))))))) (aj h5 (al (u2 (u2 s2)))))))) t5) hR
theorem rgr_3(q:QE)(h1:(decide (iN q.i<iN (gL q.g).length)=true))(h2:(CT Try.prog 135 [] [AV.lst (gL q.g),AV.lst (boL q.s),iv (iN q.i)] [] (AV.lst (List.map (iv) q.p))))(h3:(decide (0<iN (List.map (iv) q.p).length)=false)){post:Exit->St->Prop}{R:St->Prop}(hR:∀st,Ren 0 st (St.mk 46 [(0,AV.lst (gL q.g)),(1,AV.lst (boL q.s)),(8,AV.lst (List.map (iv) q.o)),(9,iv (i64.wrap (iN q.i+1)))] [])->R st):GoP Try.prog (hU [41,60] (eN q) (cE q)) 0 (zC (zB Try.f103) 0) (Fa q) (andThen R post):=
 zN (σ:=[]) (fz:=[]) (vars:=[0,1,8,9]) (by kernel_rfl) (aj (aj (u2 (u2 (u2 (al t3)))) (aj h1 (aj (u2 (u2 (u2 (aj (ak (k5 (al h2))) s2)))) (aj (u2 (u2 (u2 (u2 (aj h3 (aj h3 (aj h3 (aj h3 (k5 (aj h3 (al (aj h3 t2)))))))))))) (ak (al (u2 (u2 s2)))))))) t5) hR
theorem rwz_0(q:QE)(h1:(0<=iN q.a))(h2:((boL q.s)[(iN q.a).toNat]?=some (AV.bool q.sb)))(h3:(q.sb=true)):GoP Try.prog (hU [31] (e26 q) (cE q)) 0 (zB Try.f135) (st26 q) (Fin Try.prog Try.f135 0 [] (AV.nils)):=
 zF (σ:=[]) (fz:=[]) (by kernel_rfl) (aj (u2 (aj (u2 (u2 (aj (k2 (aj h1 h2)) s2))) (aj h3 s2))) t2)
theorem rw_0(q:QE)(h1:(0<=iN q.a))(h2:((boL q.s)[(iN q.a).toNat]?=some (AV.bool q.sb)))(h3:(q.sb=false))(h4:(CT Try.prog 125 [] [AV.lst (gL q.g),AV.lst (boL q.s),iv (iN q.a)] [] (AV.lst (List.map (iv) q.d)))){post:Exit->St->Prop}(ht:T Try.prog 0 (.loop (zC (zB Try.f135) 0)) (St.mk 72 [(0,AV.lst (gL q.g)),(1,AV.lst (boL q.s)),(2,iv (iN q.a)),(7,AV.lst (List.map (iv) q.d)),(8,iv (-1)),(9,iv 0)] []) (TK Try.prog 0 post (zK (zB Try.f135) 0))):GoP Try.prog (hU [30] (e26 q) (cE q)) 0 (zB Try.f135) (st26 q) post:=
 zR (σ:=[]) (fz:=[]) (vars:=[0,1,2,7,8,9]) (by kernel_rfl) (aj (u2 (aj (u2 (u2 (aj (k2 (aj h1 h2)) s2))) (aj h3 (aj (u2 (u2 (u2 (aj (ak (k5 (al h4))) s2)))) (u2 s2))))) t7) ht
theorem rwr_0(q:QE)(h1:(0<=iN q.a))(h2:((gL q.g)[(iN q.a).toNat]?=some (AV.lst (List.map (iv) q.r))))(h3:(decide (iN q.i<iN (List.map (iv) q.r).length)=true))(h4:(0<=iN q.i))(h5:((List.map (iv) q.r)[(iN q.i).toNat]?=some (iv (iN q.w))))(h6:(0<=iN q.w))(h7:((List.map (iv) q.d)[(iN q.w).toNat]?=some (iv q.x)))(h8:(decide (0<=q.x)=true))(h9:(decide (q.bz<0)=true)){post:Exit->St->Prop}{R:St->Prop}(hR:∀st,Ren 0 st (St.mk 72 [(0,AV.lst (gL q.g)),(1,AV.lst (boL q.s)),(2,iv (iN q.a)),(7,AV.lst (List.map (iv) q.d)),(8,iv (iN q.w)),(9,iv (i64.wrap (iN q.i+1)))] [])->R st):GoP Try.prog (hU [53,83,89] (e26 q) (cE q)) 0 (zC (zB Try.f135) 0) (Ej q) (andThen R post):=
 zN (σ:=[]) (fz:=[]) (vars:=[0,1,2,7,8,9]) (by kernel_rfl) (aj (aj (u2 (u2 (u2 (aj (k2 (aj h1 h2)) (u2 (u2 (al t3))))))) (aj h3 (aj (u2 (u2 (aj (k2 (aj h1 h2)) (u2 (u2 (aj (k2 (aj h4 h5)) (u2 s2))))))) (aj (u2 (u2 (aj (k2 (aj h6 h7)) (u2 (u2 (u2 (ag h8 (ag h8 (ag h8 (aj h9 (aj h9 (aj h9 (aj h9 (aj h9 (aj h9 (aj h9 (aj h9 (aj h9 (aj (aj h8 (aj h9 t2)) (al (aj h8 t2))))))))))))))))))))) (ak (aj (u2 s2) (al (u2 (u2 s2))))))))) t7) hR
theorem rwr_1(q:QE)(h1:(0<=iN q.a))(h2:((gL q.g)[(iN q.a).toNat]?=some (AV.lst (List.map (iv) q.r))))(h3:(decide (iN q.i<iN (List.map (iv) q.r).length)=true))(h4:(0<=iN q.i))(h5:((List.map (iv) q.r)[(iN q.i).toNat]?=some (iv (iN q.w))))(h6:(0<=iN q.w))(h7:((List.map (iv) q.d)[(iN q.w).toNat]?=some (iv q.x)))(h8:(decide (0<=q.x)=true))(h9:(decide (q.bz<0)=false))(h10:(0<=q.bz))(h11:((List.map (iv) q.d)[q.bz.toNat]?=some (iv q.y)))(h12:(decide (q.x<q.y)=true)){post:Exit->St->Prop}{R:St->Prop}(hR:∀st,Ren 0 st (St.mk 72 [(0,AV.lst (gL q.g)),(1,AV.lst (boL q.s)),(2,iv (iN q.a)),(7,AV.lst (List.map (iv) q.d)),(8,iv (iN q.w)),(9,iv (i64.wrap (iN q.i+1)))] [])->R st):GoP Try.prog (hU [53,83,88,111] (e26 q) (cE q)) 0 (zC (zB Try.f135) 0) (Ej q) (andThen R post):=
 zN (σ:=[]) (fz:=[]) (vars:=[0,1,2,7,8,9]) (by kernel_rfl) (aj (aj (u2 (u2 (u2 (aj (k2 (aj h1 h2)) (u2 (u2 (al t3))))))) (aj h3 (aj (u2 (u2 (aj (k2 (aj h1 h2)) (u2 (u2 (aj (k2 (aj h4 h5)) (u2 s2))))))) (aj (u2 (u2 (aj (k2 (aj h6 h7)) (u2 (u2 (u2 (ag h8 (ag h8 (ag h8 (ag h9 (ag h9 (aj (aj h9 (k2 (aj h6 h7))) (ag h9 (ag h9 (ag h9 (aj (aj h9 (k2 (aj h10 h11))) (ag h9 (aj (aj h9 t3) (aj (aj h8 (aj h9 t2)) (al (aj h8 t2))))))))))))))))))))) (aj h12 (aj (u2 s2) (al (u2 (u2 s2))))))))) t7) hR
theorem rwr_2(q:QE)(h1:(0<=iN q.a))(h2:((gL q.g)[(iN q.a).toNat]?=some (AV.lst (List.map (iv) q.r))))(h3:(decide (iN q.i<iN (List.map (iv) q.r).length)=true))(h4:(0<=iN q.i))(h5:((List.map (iv) q.r)[(iN q.i).toNat]?=some (iv (iN q.w))))(h6:(0<=iN q.w))(h7:((List.map (iv) q.d)[(iN q.w).toNat]?=some (iv q.x)))(h8:(decide (0<=q.x)=true))(h9:(decide (q.bz<0)=false))(h10:(0<=q.bz))(h11:((List.map (iv) q.d)[q.bz.toNat]?=some (iv q.y)))(h12:(decide (q.x<q.y)=false)){post:Exit->St->Prop}{R:St->Prop}(hR:∀st,Ren 0 st (St.mk 72 [(0,AV.lst (gL q.g)),(1,AV.lst (boL q.s)),(2,iv (iN q.a)),(7,AV.lst (List.map (iv) q.d)),(8,iv q.bz),(9,iv (i64.wrap (iN q.i+1)))] [])->R st):GoP Try.prog (hU [53,83,88,110] (e26 q) (cE q)) 0 (zC (zB Try.f135) 0) (Ej q) (andThen R post):=
 zN (σ:=[]) (fz:=[]) (vars:=[0,1,2,7,8,9]) (by kernel_rfl) (aj (aj (u2 (u2 (u2 (aj (k2 (aj h1 h2)) (u2 (u2 (al t3))))))) (aj h3 (aj (u2 (u2 (aj (k2 (aj h1 h2)) (u2 (u2 (aj (k2 (aj h4 h5)) (u2 s2))))))) (aj (u2 (u2 (aj (k2 (aj h6 h7)) (u2 (u2 (u2 (ag h8 (ag h8 (ag h8 (ag h9 (ag h9 (aj (aj h9 (k2 (aj h6 h7))) (ag h9 (ag h9 (ag h9 (aj (aj h9 (k2 (aj h10 h11))) (ag h9 (aj (aj h9 t3) (aj (aj h8 (aj h9 t2)) (al (aj h8 t2))))))))))))))))))))) (aj h12 (al (u2 (u2 s2)))))))) t7) hR
theorem rwr_3(q:QE)(h1:(0<=iN q.a))(h2:((gL q.g)[(iN q.a).toNat]?=some (AV.lst (List.map (iv) q.r))))(h3:(decide (iN q.i<iN (List.map (iv) q.r).length)=true))(h4:(0<=iN q.i))(h5:((List.map (iv) q.r)[(iN q.i).toNat]?=some (iv (iN q.w))))(h6:(0<=iN q.w))(h7:((List.map (iv) q.d)[(iN q.w).toNat]?=some (iv q.x)))(h8:(decide (0<=q.x)=false)){post:Exit->St->Prop}{R:St->Prop}(hR:∀st,Ren 0 st (St.mk 72 [(0,AV.lst (gL q.g)),(1,AV.lst (boL q.s)),(2,iv (iN q.a)),(7,AV.lst (List.map (iv) q.d)),(8,iv q.bz),(9,iv (i64.wrap (iN q.i+1)))] [])->R st):GoP Try.prog (hU [53,82] (e26 q) (cE q)) 0 (zC (zB Try.f135) 0) (Ej q) (andThen R post):=
 zN (σ:=[]) (fz:=[]) (vars:=[0,1,2,7,8,9]) (by kernel_rfl) (aj (aj (u2 (u2 (u2 (aj (k2 (aj h1 h2)) (u2 (u2 (al t3))))))) (aj h3 (aj (u2 (u2 (aj (k2 (aj h1 h2)) (u2 (u2 (aj (k2 (aj h4 h5)) (u2 s2))))))) (aj (u2 (u2 (aj (k2 (aj h6 h7)) (u2 (u2 (u2 (aj h8 (aj h8 (aj h8 (ak (k3 (k5 (aj h8 (al (aj h8 t2))))))))))))))) (ak (al (u2 (u2 s2)))))))) t7) hR
theorem rwx_0(q:QE)(h1:(0<=iN q.a))(h2:((gL q.g)[(iN q.a).toNat]?=some (AV.lst (List.map (iv) q.r))))(h3:(decide (iN q.i<iN (List.map (iv) q.r).length)=false))(h4:(decide (q.bz<0)=true)):GoO Try.prog (hU [52,117] (e26 q) (cE q)) 0 (zC (zB Try.f135) 0) (zK (zB Try.f135) 0) (Ej q) (Fin Try.prog Try.f135 0 [] (AV.nils)):=
 zF (σ:=[]) (fz:=[0,1]) (by kernel_rfl) (aj (aj (aj (u2 (u2 (u2 (aj (k2 (aj h1 h2)) (u2 (u2 (al t3))))))) (al h3)) (aj (u2 s2) (aj h4 s2))) t2)
theorem rwx_1(q:QE)(h1:(0<=iN q.a))(h2:((gL q.g)[(iN q.a).toNat]?=some (AV.lst (List.map (iv) q.r))))(h3:(decide (iN q.i<iN (List.map (iv) q.r).length)=false))(h4:(decide (q.bz<0)=false))(h5:(CT Try.prog 126 [] [AV.lst (gL q.g),AV.lst (boL q.s),iv q.bz,iv (iN q.a)] [] (AV.lst (List.map (iv) q.p))))(h6:(∀(e:AV),e∈List.map (iv) q.p->e.cells.length=1))(h7:(0<=i64.wrap (iN (List.map (iv) q.p).length-1)))(h8:(i64.wrap (iN (List.map (iv) q.p).length-1)<=iN (List.map (iv) q.p).length))(h9:(iN (List.map (iv) q.p).length<=iN (List.map (iv) q.p).length))(h10:([iv (iN q.a)].length=1))(h11:(∀(e:AV),e∈List.take ((i64.wrap (iN (List.map (iv) q.p).length-1)).toNat-Int.toNat 0) (List.drop (Int.toNat 0) (List.map (iv) q.p))->e.cells.length=1))(h12:([iv (iN q.a)].length+(List.take ((i64.wrap (iN (List.map (iv) q.p).length-1)).toNat-Int.toNat 0) (List.drop (Int.toNat 0) (List.map (iv) q.p))).length<=9223372036854775807))(h13:(([iv (iN q.a)].length+(List.take ((i64.wrap (iN (List.map (iv) q.p).length-1)).toNat-Int.toNat 0) (List.drop (Int.toNat 0) (List.map (iv) q.p))).length) * 8<=140737488355328))(h14:([iv (iN q.a)].length+(List.take ((i64.wrap (iN (List.map (iv) q.p).length-1)).toNat-Int.toNat 0) (List.drop (Int.toNat 0) (List.map (iv) q.p))).length=(iv (iN q.a)::List.append._f [] PUnit.unit (List.take ((i64.wrap (iN (List.map (iv) q.p).length-1)).toNat-Int.toNat 0) (List.drop (Int.toNat 0) (List.map (iv) q.p)))).length)):GoO Try.prog (hU [52,116] (e26 q) (cE q)) 0 (zC (zB Try.f135) 0) (zK (zB Try.f135) 0) (Ej q) (Fin Try.prog Try.f135 0 [] (AV.lst (iv (iN q.a)::List.append._f [] PUnit.unit (List.take ((i64.wrap (iN (List.map (iv) q.p).length-1)).toNat-Int.toNat 0) (List.drop (Int.toNat 0) (List.map (iv) q.p)))))):=
 zF (σ:=[]) (fz:=[0,1]) (by kernel_rfl) (aj (aj (aj (u2 (u2 (u2 (aj (k2 (aj h1 h2)) (u2 (u2 (al t3))))))) (al h3)) (aj (u2 s2) (aj h4 (aj (u2 (u2 (u2 (u2 (aj (k3 (k5 (al h5))) s2))))) (al (u2 (u2 (u2 (u2 (u2 (u2 (aj (k2 (aj h6 (aj (show((0:Int)<=(0:Int)) by first | exact nL rfl | decide) (aj h7 (aj h8 h9))))) (aj (k2 (aj h10 (aj h11 (aj h12 h13)))) s2))))))))))))) (al h14))
def Eh(r:List Int)(n v i:Nat):Bool:=decide (r.getD i 0<=BX r i)||(decide ((n:Int)<=r.getD i 0)||r.getD i 0==(v:Int))
theorem PY{r:List Int}{n v:Nat}:(fnd (Eh r n v) 0 r.length).isSome=(fnd (AI r n v) 0 r.length).isSome:=by
 have up:∀i,Eh r n v i=true->AI r n v i=true:=by
  intro i h
  unfold Eh BX at h
  unfold AI
  simp only[S9,SG,decide_eq_true_eq,beq_iff_eq] at h ⊢
  rcases h with h | h | h
  .split at h
   .exact .inl (by omega)
   .exact .inr (.inr (.inr ⟨by omega,h⟩))
  .exact .inr (.inl h)
  .exact .inr (.inr (.inl h))
 have dn:∀i,AI r n v i=true->∃j,j<=i/\Eh r n v j=true:=by
  intro i
  induction i with
  | zero=>
   intro h
   refine⟨0,SJ _,?_⟩
   unfold AI at h
   unfold Eh BX
   simp only[S9,SG,decide_eq_true_eq,beq_iff_eq] at h ⊢
   rcases h with h | h | h | ⟨h,_⟩
   .exact .inl (show r.getD 0 0<=(-1:Int) by omega)
   .exact .inr (.inl h)
   .exact .inr (.inr h)
   .omega
  | succ i ih=>
   intro h
   by_cases hl:Eh r n v (i+1)=true
   .exact⟨i+1,SJ _,hl⟩
   .have hneg:AI r n v i=true:=by
     unfold Eh BX at hl
     unfold AI at h ⊢
     simp only[S9,SG,decide_eq_true_eq,beq_iff_eq,not_or] at h hl ⊢
     rw[Sx (by omega)] at hl
     rcases h with h | h | h | ⟨_,h⟩
     .simp only[Si] at hl
      exact .inl (by omega)
     .exact absurd h hl.2.1
     .exact absurd h hl.2.2
     .exact absurd h hl.1
    obtain⟨j,hj,h2⟩:=ih hneg
    exact⟨j,by omega,h2⟩
 cases h1:fnd (Eh r n v) 0 r.length with
 | none=>
  cases h2:fnd (AI r n v) 0 r.length with
  | none=>rfl
  | some i=>
   obtain⟨a,_,b⟩:=Ea h2
   obtain⟨j,hj,hb⟩:=dn i a
   have:=CB h1 j (SK _) (by omega)
   rw[hb] at this;cases this
 | some i=>
  cases h2:fnd (AI r n v) 0 r.length with
  | some _=>rfl
  | none=>
   obtain⟨a,_,b⟩:=Ea h1
   have:=CB h2 i (SK _) (by omega)
   rw[up i a] at this;cases this
theorem Hw{g:List (List Int)}{s:List Bool}(hrw:Rows g)(h:DG g s=0):OkG g s/\Asc g:=by
 unfold DG at h
 by_cases h1:24<g.length
 .rw[Sw h1] at h;cases h
 rw[Sx h1] at h
 by_cases h2:Da g=true
 .rw[Sw h2] at h;cases h
 rw[Sx h2] at h
 by_cases h3:s.length=g.length
 .have hb:∀a,a<g.length->∀i,i<(g.getD a []).length->AI (g.getD a []) g.length a i=false:=by
   intro a ha i hi
   have e1:fnd (Cw g) 0 g.length=none:=by unfold Da at h2;simpa using h2
   have e2:=CB e1 a (SK _) (by omega)
   unfold Cw at e2
   have e3:fnd (AI (g.getD a []) g.length a) 0 (g.getD a []).length=none:=by simpa using e2
   exact CB e3 i (SK _) (by omega)
  refine⟨⟨by omega,fun a ha=>⟨hrw a ha,fun x hx=>?_⟩,h3⟩,fun a ha i h0 hi=>?_⟩
  .obtain⟨i,hi,rfl⟩:=O8 hx
   have hbad:=hb a ha i hi
   unfold AI at hbad
   simp only[Bool.or_eq_false_iff,decide_eq_false_iff_not,S8,ne_eq] at hbad
   exact⟨by omega,by omega,hbad.2.2.1⟩
  .have hbad:=hb a ha i hi
   unfold AI at hbad
   rw[SE h0,Bool.true_and] at hbad
   simp only[Bool.or_eq_false_iff,decide_eq_false_iff_not] at hbad
   omega
 .rw[Sw h3] at h;cases h
theorem wkL_take(g:List (List Int))(d:List Int)(a k:Nat):(wkL g d a k).take k=(List.range k).map (wkZ g d a):=by
 unfold wkL
 rw[<-List.map_take,List.take_range,Nat.min_eq_left (by omega)]
theorem RU{g:List (List Int)}{s:List Bool}(hg:OkG g s)(v:Nat)(hv:v<g.length):CT Try.prog 135 [] [.lst (gL g),.lst (boL s),.int .i64 (v:Nat)] [] (lI (thZ g s v)):=by
 have hgl:=hg.len
 have hl:=BJ g
 have hsv:=GN (s:=s) (v:=v) (by rw[hg.sh];exact hv)
 have hb:Try.f135.body=some (zB Try.f135):=by kernel_rfl
 have hn:[AV.lst (gL g),.lst (boL s),.int .i64 (v:Nat)].length<=Try.f135.ntmps:=nL rfl
 unfold thZ
 by_cases hso:s.getD v false=true
 .rw[Sw hso]
  exact CT.pathW mix Try.func135 hb hn (rwz_0 ⟨g,s,0,[],[],[],[],0,0,v,0,0,0,0,0,false,s.getD v false⟩ (by simp[iN]) hsv hso) rfl
 .rw[Sx hso]
  have hso:=Tk.2 hso
  have c1:=Lf hg v hv
  rw[La hg hv] at c1
  have hD:=E4 hg hv
  have hfirst:∀w,w<g.length->0<=(AA g s v g.length).getD w 0->CT Try.prog 126 [] [.lst (gL g),.lst (boL s),.int .i64 (w:Nat),.int .i64 (v:Nat)] [] (lI (wkL g (AA g s v g.length) w ((AA g s v g.length).getD w 0).toNat)):=by
   intro w hw h0
   have:=first_ct hg w v hw hv
   rwa [Sx (by omega)] at this
  generalize AA g s v g.length=d at c1 hD hfirst
  have hbo:=fun i=>MX (d:=d) (Oe hg hv) i
  have hr1:=(hg.row v hv).1
  have hrow:=CQ hv
  have hget:=fun i=>FF hg hv (i:=i)
  generalize g.getD v []=r at hbo hr1 hrow hget
  have hrl:=BW r
  have hbr:∀i,i<=r.length->Cp d r i = -1\/∃b:Nat,Cp d r i=(b:Int)/\b<g.length/\0<=d.getD b 0:=by
   intro i hi
   rcases hbo i hi with h | ⟨k,hk,h,h0,_⟩
   .exact .inl h.1
   .obtain⟨w,hw,hw1,_⟩:=hget k (by omega)
    rw[hw,SH] at h0
    exact .inr ⟨w,by rw[h,hw],hw1,h0⟩
  have run:∀res,(Cp d r r.length = -1->res = .nils)->(∀b:Nat,Cp d r r.length=(b:Int)->res=lI ((v:Int)::(List.range (d.getD b 0).toNat).map (wkZ g d b)))->
    T Try.prog 0 (.loop (zC (zB Try.f135) 0)) (Ej ⟨g,s,0,[],[],d,r,0,0,v,0,0,0,0,-1,false,false⟩) (TK Try.prog 0 (Fin Try.prog Try.f135 0 [] res) (zK (zB Try.f135) 0)):=by
   intro res hnil hsome
   refine T.loop (fun i:Nat=>Ej ⟨g,s,0,[],[],d,r,0,i,v,0,0,0,0,Cp d r i,false,false⟩) (fun i=>i<=r.length) (fun i=>r.length+1-i) 0 (SK _) ?_
   intro i hi
   by_cases h:i<r.length
   .obtain⟨w,hw,hw1,hw2⟩:=hget i h
    have hg1:=Bp h
    rw[hw] at hg1
    have hdw:=Bp (l:=d) (j:=w) (by rw[hD.len];omega)
    have dk:decide (iN i<iN (r.map (AV.int .i64)).length)=true:=SE (by simp only[iN,hrl];omega)
    have wi:i64.wrap (iN i+1)=((i+1:Nat):Int):=zW i (by omega)
    have hstep:Cp d r (i+1)=J4 d (Cp d r i) (w:Int):=by rw[Cp,hw]
    unfold J4 at hstep
    rw[SH] at hstep
    have next:∀st,Ren 0 st (Ej ⟨g,s,0,[],[],d,r,0,i+1,v,0,0,0,0,Cp d r (i+1),false,false⟩)->∃j,Ren 0 st (Ej ⟨g,s,0,[],[],d,r,0,j,v,0,0,0,0,Cp d r j,false,false⟩)/\j<=r.length/\r.length+1-j<r.length+1-i:=fun st hst=>⟨i+1,hst,h,by omega⟩
    by_cases c1:0<=d.getD w 0
    .rw[Sw c1] at hstep
     rcases hbr i hi with hb | ⟨b,hb,hbl,_⟩
     .rw[hb,Sw (by decide)] at hstep
      rw[hstep] at next
      rw[hb]
      refine T.path mix (rwr_0 ⟨g,s,0,[],[],d,r,0,i,v,w,d.getD w 0,0,0,-1,false,false⟩ (by simp[iN]) hrow dk (by simp[iN]) hg1 (by simp[iN]) hdw (SE c1) rfl ?_)
      intro st hst
      simp only[wi] at hst
      exact next st hst
     .rw[hb,Sx (by omega),SH] at hstep
      have hdb:=Bp (l:=d) (j:=b) (by rw[hD.len];omega)
      rw[hb]
      by_cases c2:d.getD w 0<d.getD b 0
      .rw[Sw c2] at hstep
       rw[hstep] at next
       refine T.path mix (rwr_1 ⟨g,s,0,[],[],d,r,0,i,v,w,d.getD w 0,d.getD b 0,0,(b:Int),false,false⟩ (by simp[iN]) hrow dk (by simp[iN]) hg1 (by simp[iN]) hdw (SE c1) (SD (by simp only;omega)) (by simp) hdb (SE c2) ?_)
       intro st hst
       simp only[wi] at hst
       exact next st hst
      .rw[Sx c2] at hstep
       rw[hstep] at next
       refine T.path mix (rwr_2 ⟨g,s,0,[],[],d,r,0,i,v,w,d.getD w 0,d.getD b 0,0,(b:Int),false,false⟩ (by simp[iN]) hrow dk (by simp[iN]) hg1 (by simp[iN]) hdw (SE c1) (SD (by simp only;omega)) (by simp) hdb (SD c2) ?_)
       intro st hst
       simp only[wi] at hst
       exact next st hst
    .rw[Sx c1] at hstep
     rw[hstep] at next
     refine T.path mix (rwr_3 ⟨g,s,0,[],[],d,r,0,i,v,w,d.getD w 0,0,0,Cp d r i,false,false⟩ (by simp[iN]) hrow dk (by simp[iN]) hg1 (by simp[iN]) hdw (SD c1) ?_)
     intro st hst
     simp only[wi] at hst
     exact next st hst
   .obtain rfl:i=r.length:=by omega
    have dn:decide (iN r.length<iN (r.map (AV.int .i64)).length)=false:=SD (by simp only[iN,hrl];omega)
    rcases hbr r.length (SJ _) with hb | ⟨b,hb,hbl,hb0⟩
    .rw[hnil hb,hb]
     exact T.out mix (rwx_0 ⟨g,s,0,[],[],d,r,0,r.length,v,0,0,0,0,-1,false,false⟩ (by simp[iN]) hrow dn rfl)
    .rw[hsome b hb,hb]
     have hbd:=(hD.bnd b hbl).2
     have hf:=hfirst b hbl hb0
     obtain⟨m,hm⟩:∃m:Nat,d.getD b 0=(m:Int):=⟨(d.getD b 0).toNat,by omega⟩
     rw[hm,SH] at hf ⊢
     have hpl:=IH g d b m
     have htk:=wkL_take g d b m
     generalize wkL g d b m=p at hf hpl htk
     have hlp:=BW p
     have hw1:i64.wrap (iN (p.map (AV.int .i64)).length-1)=((m:Nat):Int):=by
      rw[hlp,hpl]
      have:=E5 (m+1) (by omega) (by omega)
      simp only[iN];rw[this];simp
     have e3:List.take (((m:Nat):Int).toNat-Int.toNat 0) (List.drop (Int.toNat 0) (p.map (AV.int .i64)))=((List.range m).map (wkZ g d b)).map (AV.int .i64):=by
      rw[<-htk];simp[List.map_take]
     have k:=rwx_1 ⟨g,s,0,p,[],d,r,0,r.length,v,0,0,0,0,(b:Int),false,false⟩ (by simp[iN]) hrow dn (SD (by simp only;omega)) hf (fun x hx=>by obtain⟨y,_,rfl⟩:=S3.1 hx;rfl) (by simp only[hw1];omega) (by simp only[hw1];simp only[iN,hlp,hpl];omega) (Int.le_refl _) rfl
      (fun x hx=>by simp only[hw1,e3] at hx;obtain⟨y,_,rfl⟩:=S3.1 hx;rfl) (by simp only[hw1,e3];simp;omega) (by simp only[hw1,e3];simp;omega) (by simp only[hw1,e3];show _=([AV.int .i64 (iN v)]++_).length;rw[SR])
     simp only[hw1,e3] at k
     exact T.out mix k
  have hz:=hbr r.length (SJ _)
  generalize Cp d r r.length=b at run hz
  unfold thD
  rcases hz with rfl | ⟨b,rfl,hbl,hb0⟩
  .rw[Sw (by decide)]
   refine CT.pathW mix Try.func135 hb hn (res:=.nils) (rw_0 ⟨g,s,0,[],[],d,[],0,0,v,0,0,0,0,0,false,s.getD v false⟩ (by simp[iN]) hsv hso c1 ?_) rfl
   exact run _ (fun _=>rfl) (fun b h=>by omega)
  .rw[Sx (by omega),SH]
   refine CT.path mix Try.func135 hb hn (rw_0 ⟨g,s,0,[],[],d,[],0,0,v,0,0,0,0,0,false,s.getD v false⟩ (by simp[iN]) hsv hso c1 ?_)
   exact run _ (fun h=>by omega) (fun b' h=>by rw[show b'=b by omega])
def thT(e:Int)(l:List Int):AV:=.tup [.int .i64 (iN l.length),lI l,.int .i64 e]
def Ix(o p:List Int):List Int:=if 0<p.length/\(o=[]\/p.length<o.length) then p else o
def Cg(g:List (List Int))(s:List Bool):Nat->List Int
 | 0=>[]
 | v+1=>Ix (Cg g s v) (thZ g s v)
def Ic(g:List (List Int))(s:List Bool):List Int:=if DG g s=0 then Cg g s g.length else []
def qgi(g:List (List Int))(s:List Bool)(p o:List Int)(i:Nat):QE:=⟨g,s,0,p,o,[],[],0,i,0,0,0,0,0,0,false,false⟩
theorem Qq{g:List (List Int)}{s:List Bool}(hrw:Rows g):CT Try.prog 103 [] [.lst (gL g),.lst (boL s)] [] (thT (DG g s) (Ic g s)):=by
 have hl:=BJ g
 have c:=QR (s:=s) hrw
 have hb:Try.f103.body=some (zB Try.f103):=by kernel_rfl
 have hn:[AV.lst (gL g),.lst (boL s)].length<=Try.f103.ntmps:=nL rfl
 unfold Ic
 by_cases h:DG g s=0
 .rw[Sw h]
  rw[h] at c ⊢
  obtain⟨hg,ha⟩:=Hw hrw h
  have hgl:=hg.len
  refine CT.path mix Try.func103 hb hn (rgi_1 ⟨g,s,0,[],[],[],[],0,0,0,0,0,0,0,0,false,false⟩ c rfl (T.nil ?_))
  refine T.loop (fun i:Nat=>Fa (qgi g s [] (Cg g s i) i)) (fun i=>i<=g.length) (fun i=>g.length+1-i) 0 (SK _) ?_
  intro i hi
  by_cases hil:i<g.length
  .have ct:=RU hg i hil
   have hs1:Cg g s (i+1)=Ix (Cg g s i) (thZ g s i):=rfl
   have next:∀st,Ren 0 st (Fa (qgi g s [] (Cg g s (i+1)) (i+1)))->∃j,Ren 0 st (Fa (qgi g s [] (Cg g s j) j))/\j<=g.length/\g.length+1-j<g.length+1-i:=fun st hst=>⟨i+1,hst,hil,by omega⟩
   rw[hs1] at next
   generalize thZ g s i=p at ct next
   generalize Cg g s i=o at next
   have hpl:=BW p
   have hol:=BW o
   have dk:decide (iN i<iN (gL g).length)=true:=SE (by simp only[iN,hl];omega)
   have wi:i64.wrap (iN i+1)=((i+1:Nat):Int):=zW i (by omega)
   unfold Ix at next
   by_cases hp:0<p.length
   .have dp:decide (0<iN (p.map (AV.int .i64)).length)=true:=SE (by simp only[iN,hpl];omega)
    by_cases ho:o=[]
    .rw[Sw ⟨hp,.inl ho⟩] at next
     refine T.path mix (rgr_0 (qgi g s p o i) dk ct dp (by simp[qgi,ho,iN]) ?_)
     intro st hst
     simp only[wi,qgi] at hst
     exact next st hst
    .have hol0:(iN (o.map (AV.int .i64)).length==0)=false:=by
      simp only[iN,hol,S8,ne_eq]
      intro e
      exact ho (List.length_eq_zero_iff.1 (by omega))
     by_cases hlt:p.length<o.length
     .rw[Sw ⟨hp,.inr hlt⟩] at next
      refine T.path mix (rgr_1 (qgi g s p o i) dk ct dp hol0 (SE (by simp only[iN,qgi,hpl,hol];omega)) ?_)
      intro st hst
      simp only[wi,qgi] at hst
      exact next st hst
     .rw[Sx (fun h=>h.2.elim ho hlt)] at next
      refine T.path mix (rgr_2 (qgi g s p o i) dk ct dp hol0 (SD (by simp only[iN,qgi,hpl,hol];omega)) ?_)
      intro st hst
      simp only[wi,qgi] at hst
      exact next st hst
   .rw[Sx (fun h=>hp h.1)] at next
    refine T.path mix (rgr_3 (qgi g s p o i) dk ct (SD (by simp only[iN,qgi,hpl];omega)) ?_)
    intro st hst
    simp only[wi,qgi] at hst
    exact next st hst
  .obtain rfl:i=g.length:=by omega
   have k:=rgx_0 (qgi g s [] (Cg g s g.length) g.length) (SD (by simp only[iN,qgi,hl];omega))
   simp only[BW,qgi] at k
   exact T.out mix k
 .rw[Sx h]
  exact CT.pathW mix Try.func103 hb hn (rgi_0 ⟨g,s,0,[],[],[],[],DG g s,0,0,0,0,0,0,0,false,false⟩ c (by simpa using h)) rfl
def IT(g:List (List Int))(s:List Bool)(o:List Int):Prop:=o≠[]/\(∀x∈o,0<=x/\x<(g.length:Int)/\s.getD x.toNat false=false)/\∀i,i<o.length->o.getD ((i+1) % o.length) 0∈g.getD (o.getD i 0).toNat []
theorem get_mem{o:List Int}{i:Nat}(h:i<o.length):o.getD i 0∈o:=by
 rw[Sz,Sy h]
 exact S4 h
theorem L4{o:List Int}{x:Int}(h:x∈o):∃i,i<o.length/\o.getD i 0=x:=by
 obtain⟨i,hi,e⟩:=Ta.1 h
 exact⟨i,hi,by rw[Sz,Sy hi];exact e⟩
theorem asc_len{g:List (List Int)}{s:List Bool}(hg:OkG g s)(ha:Asc g){v:Nat}(hv:v<g.length):(g.getD v []).length<=g.length:=by
 have hget:=fun i=>FF hg hv (i:=i)
 have hs:=ha v hv
 generalize g.getD v []=r at hget hs
 have key:∀i,i<r.length->(i:Int)<=r.getD i 0:=by
  intro i
  induction i with
  | zero=>intro h;obtain⟨w,hw,_⟩:=hget 0 h;omega
  | succ i ih=>intro h;have h1:=ih (by omega);have h2:=hs (i+1) (by omega) h;simp only[Si] at h2;omega
 by_cases h:r.length=0
 .omega
 .have h1:=key (r.length-1) (by omega)
  obtain⟨w,hw,hw1,_⟩:=hget (r.length-1) (by omega)
  omega
def LK(o:List Int)(i:Nat):Int:=if i=0 then o.getD (o.length-1) 0 else o.getD (i-1) 0
theorem IT.of{g:List (List Int)}{s:List Bool}{o:List Int}(h0:o≠[])(h:∀i,i<o.length->(0<=o.getD i 0/\o.getD i 0<(g.length:Int)/\s.getD (o.getD i 0).toNat false=false)/\o.getD i 0∈g.getD (LK o i).toNat []):IT g s o:=by
 refine⟨h0,fun x hx=>?_,fun i hi=>?_⟩
 .obtain⟨i,hi,rfl⟩:=L4 hx
  exact(h i hi).1
 .by_cases e:i+1=o.length
  .rw[e,Nat.mod_self]
   have:=(h 0 (by omega)).2
   unfold LK at this
   rw[Sw rfl] at this
   rwa [show i=o.length-1 by omega]
  .rw[So (by omega)]
   have:=(h (i+1) (by omega)).2
   unfold LK at this
   rwa [Sx (by omega),Si] at this
structure QL where
 L:List Int
 g:List (List Int)
 s:List Bool
 v:Nat
 goal:Nat
 p:List Int
 d:List Int
 h:List Int
 rl:List Bool
 k:Nat
 w:Nat
 x:Int
 y:Int
 z:Int
 b:Bool
 sb:Bool
 r:List Int
 m1:Nat
 m2:Nat
def c6(q:QL):Nat->FuncId->List AV->List (Option Blk)->AH:=fun dst f args hp=>match f with
 | 15=>KI q.L args hp (match dst with | 34=>iN q.v | _=>iN q.goal)
 | 111=>.call [] [] [] (.tup [lI q.p,.int .i64 0])
 | 32=>.call [] [] [] (.tup [lI q.d,.int .i64 0])
 | 26=>.call [] [] [] (.bool true)
 | _=>.no
theorem shN{g:List (List Int)}{s:List Bool}{goal a:Nat}{d:List Int}(hD:Dst g s goal d)(ha:a<g.length)(h0:0<=d.getD a 0):s.getD goal false=false:=by
 cases h:s.getD goal false with
 | false=>rfl
 | true=>have:=hD.shut h a ha;omega
theorem opnN{g:List (List Int)}{s:List Bool}{goal a:Nat}{d:List Int}(hD:Dst g s goal d)(ha:a<g.length)(h0:0<=d.getD a 0):s.getD a false=false:=by
 rcases hD.back a ha h0 with rfl | h
 .exact shN hD ha h0
 .exact h.1
theorem QH{l:List Int}{x:Int}(h:x∈l):AB l x=true:=by
 cases e:AB l x with
 | true=>rfl
 | false=>exact absurd h (JG e)
theorem O5{g:List (List Int)}{s:List Bool}(hg:OkG g s){goal:Nat}{d:List Int}(hD:Dst g s goal d){u:Nat}(hu:u<g.length)(h0:0<d.getD u 0)(hgd:s.getD goal false=false):B2 g d u∈g.getD u []:=by
 have h:=(Pr hg hD hu h0 hgd).1
 unfold B2 at h ⊢
 cases hf:fnd (DV g d u) 0 (g.getD u []).length with
 | none=>rw[hf] at h;exact absurd h (show ¬(0:Int)<=-1 by decide)
 | some i=>
  obtain⟨_,_,b⟩:=Ea hf
  show(g.getD u []).getD i 0∈g.getD u []
  rw[Sz (l:=g.getD u []),Sy (by omega)]
  exact S4 (by omega)
def Jr(g:List (List Int))(d:List Int)(v:Nat):List Int:=if d.getD v 0<0 then [] else wkL g d v (d.getD v 0).toNat
theorem OT{g:List (List Int)}{s:List Bool}(hg:OkG g s){v:Nat}(hv:v<g.length)(hne:thZ g s v≠[]):
  ∃b m:Nat,s.getD v false=false/\b<g.length/\(b:Int)∈g.getD v []/\(AA g s v g.length).getD b 0=(m:Int)/\1<=m/\thZ g s v=(v:Int)::(List.range m).map (wkZ g (AA g s v g.length) b)/\
   ∀w∈g.getD v [],0<=(AA g s v g.length).getD w.toNat 0->(m:Int)<=(AA g s v g.length).getD w.toNat 0:=by
 unfold thZ at hne ⊢
 by_cases hso:s.getD v false=true
 .rw[Sw hso] at hne;exact absurd rfl hne
 .rw[Sx hso] at hne ⊢
  have hso:=Tk.2 hso
  have hD:=E4 hg hv
  generalize AA g s v g.length=d at hne hD ⊢
  have hbo:=MX (d:=d) (Oe hg hv) _ (SJ _)
  generalize hbb:Cp d (g.getD v []) (g.getD v []).length=b at hbo hne ⊢
  unfold thD at hne ⊢
  rcases hbo with ⟨rfl,_⟩ | ⟨k,hk,hbk,hk0,hmin,_⟩
  .rw[Sw (by decide)] at hne;exact absurd rfl hne
  .obtain⟨w,hw,hw1,hw2⟩:=FF hg hv hk
   rw[hw] at hbk
   subst hbk
   rw[hw,SH] at hk0 hmin
   rw[Sx (by omega)]
   refine⟨w,(d.getD w 0).toNat,hso,hw1,by rw[<-hw];exact row_mem hk,by omega,?_,by rw[SH],fun x hx h0=>?_⟩
   .by_cases e:d.getD w 0=0
    .exact absurd (JR hD hw1 e) hw2
    .omega
   .obtain⟨j,hj,rfl⟩:=O8 hx
    have:=hmin j hj h0
    omega
theorem th_get{g:List (List Int)}{d:List Int}{v b m:Nat}:∀i,i<m+1->((v:Int)::(List.range m).map (wkZ g d b)).getD i 0=if i=0 then (v:Int) else wkZ g d b (i-1):=by
 intro i hi
 cases i with
 | zero=>rfl
 | succ i=>rw[Sx (by omega),Si,List.getD_cons_succ,Sz,SI,SV (by omega)];rfl
theorem th_cls{g:List (List Int)}{s:List Bool}(hg:OkG g s){v:Nat}(hv:v<g.length)(hne:thZ g s v≠[]):IT g s (thZ g s v)/\(thZ g s v).getD 0 0=(v:Int)/\∀i,i<(thZ g s v).length->(thZ g s v).getD i 0∉(thZ g s v).take i:=by
 obtain⟨b,m,hso,hb,hbm,hm,h1,e,_⟩:=OT hg hv hne
 rw[e]
 have hD:=E4 hg hv
 generalize AA g s v g.length=d at hD hm
 have hok:=I7 hg hv hD hb hm hso
 have hz:=hD.zero hso
 have hlen:((v:Int)::(List.range m).map (wkZ g d b)).length=m+1:=by simp
 have hget:=th_get (g:=g) (d:=d) (v:=v) (b:=b) (m:=m)
 have hwm:wkZ g d b m=(v:Int):=by
  obtain⟨a1,a2,a3⟩:=hok m (SJ _)
  have:=JR hD (v:=(wkZ g d b m).toNat) (by omega) (by rw[a3];simp)
  omega
 generalize hl:(v:Int)::(List.range m).map (wkZ g d b)=l at hlen hget
 refine⟨⟨by rw[<-hl];simp,fun x hx=>?_,fun i hi=>?_⟩,by rw[<-hl];rfl,fun i hi hm'=>?_⟩
 .obtain⟨i,hi,rfl⟩:=L4 hx
  rw[hget i (by omega)]
  split
  .exact⟨by omega,by omega,by rw[SH];exact hso⟩
  .obtain⟨a1,a2,a3⟩:=hok (i-1) (by omega)
   exact⟨a1,a2,by
    have hu:(wkZ g d b (i-1)).toNat<g.length:=by omega
    rcases hD.back _ hu (by rw[a3];omega) with e | e
    .rw[e];exact hso
    .exact e.1⟩
 .have hnx:l.getD ((i+1) % l.length) 0=wkZ g d b i:=by
   by_cases e2:i=m
   .rw[hlen,e2,Nat.mod_self,hget 0 (by omega),Sw rfl,hwm]
   .rw[hlen,So (by omega),hget (i+1) (by omega),Sx (by omega),Si]
  rw[hnx,hget i (by omega)]
  split
  .rename_i e0
   rw[e0,SH]
   exact hbm
  .rename_i e0
   obtain⟨a1,a2,a3⟩:=hok (i-1) (by omega)
   have:=O5 hg hD (u:=(wkZ g d b (i-1)).toNat) (by omega) (by rw[a3];omega) hso
   obtain⟨i',rfl⟩:∃i',i=i'+1:=⟨i-1,by omega⟩
   exact this
 .have hm2:∃j,j<i/\l.getD j 0=l.getD i 0:=by
   obtain⟨j,hj,e2⟩:=L4 hm'
   have hj2:j<i:=by simp only[S0] at hj;omega
   refine⟨j,hj2,?_⟩
   rw[<-e2,Sz,Sz,SQ,Sw hj2]
  obtain⟨j,hj,e2⟩:=hm2
  rw[hget i (by omega),hget j (by omega),Sx (show ¬i=0 by omega)] at e2
  obtain⟨a1,a2,a3⟩:=hok (i-1) (by omega)
  by_cases ej:j=0
  .rw[Sw ej] at e2
   rw[<-e2,SH,hz] at a3
   omega
  .rw[Sx ej] at e2
   obtain⟨b1,b2,b3⟩:=hok (j-1) (by omega)
   rw[e2,a3] at b3
   omega
theorem OJ(g:List (List Int))(s:List Bool):∀k,(Cg g s k=[]/\∀v,v<k->thZ g s v=[])\/∃v,v<k/\Cg g s k=thZ g s v/\thZ g s v≠[]/\∀u,u<k->thZ g s u≠[]->(thZ g s v).length<=(thZ g s u).length:=by
 intro k
 induction k with
 | zero=>exact .inl ⟨rfl,fun v hv=>by omega⟩
 | succ k ih=>
  have e:Cg g s (k+1)=Ix (Cg g s k) (thZ g s k):=rfl
  rw[e]
  unfold Ix
  by_cases hp:thZ g s k=[]
  .rw[Sx (fun h=>by rw[hp] at h;exact absurd h.1 (by simp))]
   rcases ih with ⟨h1,h2⟩ | ⟨v,hv,h1,h2,h3⟩
   .refine .inl ⟨h1,fun v hv=>?_⟩
    by_cases ev:v=k
    .rw[ev];exact hp
    .exact h2 v (by omega)
   .refine .inr ⟨v,by omega,h1,h2,fun u hu hne=>?_⟩
    by_cases eu:u=k
    .rw[eu] at hne;exact absurd hp hne
    .exact h3 u (by omega) hne
  .have hpl:0<(thZ g s k).length:=List.length_pos_iff.2 hp
   rcases ih with ⟨h1,h2⟩ | ⟨v,hv,h1,h2,h3⟩
   .rw[Sw ⟨hpl,.inl h1⟩]
    refine .inr ⟨k,by omega,rfl,hp,fun u hu hne=>?_⟩
    by_cases eu:u=k
    .rw[eu];exact SJ _
    .exact absurd (h2 u (by omega)) hne
   .rw[h1]
    by_cases hlt:(thZ g s k).length<(thZ g s v).length
    .rw[Sw ⟨hpl,.inr hlt⟩]
     refine .inr ⟨k,by omega,rfl,hp,fun u hu hne=>?_⟩
     by_cases eu:u=k
     .rw[eu];exact SJ _
     .have:=h3 u (by omega) hne;omega
    .rw[Sx (fun h=>h.2.elim h2 hlt)]
     refine .inr ⟨v,by omega,rfl,h2,fun u hu hne=>?_⟩
     by_cases eu:u=k
     .rw[eu];omega
     .exact h3 u (by omega) hne
theorem QB{g:List (List Int)}{s:List Bool}(hg:OkG g s)(hne:Cg g s g.length≠[]):IT g s (Cg g s g.length)/\∀i,i<(Cg g s g.length).length->(Cg g s g.length).getD i 0∉(Cg g s g.length).take i:=by
 rcases OJ g s g.length with ⟨h,_⟩ | ⟨v,hv,h1,h2,_⟩
 .exact absurd h hne
 .rw[h1]
  obtain⟨a,_,c⟩:=th_cls hg hv h2
  exact⟨a,c⟩
theorem thZ_len{g:List (List Int)}{s:List Bool}(hg:OkG g s){v:Nat}(hv:v<g.length):(thZ g s v).length<=1000:=by
 by_cases h:thZ g s v=[]
 .rw[h];simp
 .obtain⟨b,m,_,hb,_,hm,_,e,_⟩:=OT hg hv h
  have:=((E4 hg hv).bnd b hb).2
  have:=hg.len
  rw[e]
  simp only[Td,SB,Tg]
  omega
theorem G9{l:List Int}{x:Int}:AB l x=true↔x∈l:=by
 constructor
 .intro hh
  unfold AB at hh
  cases hfd:fnd (fun j=>l.getD j 0==x) 0 l.length with
  | none=>rw[hfd] at hh;cases hh
  | some j=>
   obtain⟨a1,_,a2⟩:=Ea hfd
   rw[<-beq_iff_eq.1 a1]
   exact get_mem (by omega)
 .exact QH
@[irreducible] def AM(c:Int):Bool:=(decide (97<=c)&&decide (c<=122))||(decide (65<=c)&&decide (c<=90))
@[irreducible] def okB(c:Int):Bool:=AM c||!(decide (c<48)||decide (57<c))||(c==45)||(c==95)
@[irreducible] def nmB(s:ByteArray):Bool:= !(s.toList==(ByteArray.mk #[]).toList)&&!(decide (12<iN s.size))&&AM (bAt s 0)&&!(fnd (fun i=> !(okB (bAt s i))) 0 s.size).isSome
theorem NG(c:Int):CT Try.prog 144 [] [.int .u8 c] [] (.bool (AM c)):=by
 have hb:Try.f144.body=some (zB Try.f144):=by kernel_rfl
 have hn:[AV.int .u8 c].length<=Try.f144.ntmps:=nL rfl
 cases t1:decide (97<=(QN.mk ⟨#[]⟩ c 0 false false 0 0 0 0).c)
 case false=>
  cases t2:decide (65<=(QN.mk ⟨#[]⟩ c 0 false false 0 0 0 0).c)
  case false=>
   exact CT.pathS mix Try.func144 hb hn (let_4 (QN.mk ⟨#[]⟩ c 0 false false 0 0 0 0) t1 t2) (by simp_all [AM]<;>omega)
  case true=>
   exact CT.pathS mix Try.func144 hb hn (let_3 (QN.mk ⟨#[]⟩ c 0 false false 0 0 0 0) t1 t2) (by simp_all [AM]<;>omega)
 case true=>
  cases t3:decide ((QN.mk ⟨#[]⟩ c 0 false false 0 0 0 0).c<=122)
  case false=>
   cases t4:decide (65<=(QN.mk ⟨#[]⟩ c 0 false false 0 0 0 0).c)
   case false=>
    exact CT.pathS mix Try.func144 hb hn (let_2 (QN.mk ⟨#[]⟩ c 0 false false 0 0 0 0) t1 t3 t4) (by simp_all [AM]<;>omega)
   case true=>
    exact CT.pathS mix Try.func144 hb hn (let_1 (QN.mk ⟨#[]⟩ c 0 false false 0 0 0 0) t1 t3 t4) (by simp_all [AM]<;>omega)
  case true=>
   exact CT.pathS mix Try.func144 hb hn (let_0 (QN.mk ⟨#[]⟩ c 0 false false 0 0 0 0) t1 t3) (by simp_all [AM]<;>omega)
theorem OE(c:Int):CT Try.prog 146 [] [.int .u8 c] [] (.bool (AM c)):=by
 have hb:Try.f146.body=some (zB Try.f146):=by kernel_rfl
 have hn:[AV.int .u8 c].length<=Try.f146.ntmps:=nL rfl
 cases t5:decide (97<=(QN.mk ⟨#[]⟩ c 0 false false 0 0 0 0).c)
 case false=>
  cases t6:decide (65<=(QN.mk ⟨#[]⟩ c 0 false false 0 0 0 0).c)
  case false=>
   exact CT.pathS mix Try.func146 hb hn (rlet_4 (QN.mk ⟨#[]⟩ c 0 false false 0 0 0 0) t5 t6) (by simp_all [AM]<;>omega)
  case true=>
   exact CT.pathS mix Try.func146 hb hn (rlet_3 (QN.mk ⟨#[]⟩ c 0 false false 0 0 0 0) t5 t6) (by simp_all [AM]<;>omega)
 case true=>
  cases t7:decide ((QN.mk ⟨#[]⟩ c 0 false false 0 0 0 0).c<=122)
  case false=>
   cases t8:decide (65<=(QN.mk ⟨#[]⟩ c 0 false false 0 0 0 0).c)
   case false=>
    exact CT.pathS mix Try.func146 hb hn (rlet_2 (QN.mk ⟨#[]⟩ c 0 false false 0 0 0 0) t5 t7 t8) (by simp_all [AM]<;>omega)
   case true=>
    exact CT.pathS mix Try.func146 hb hn (rlet_1 (QN.mk ⟨#[]⟩ c 0 false false 0 0 0 0) t5 t7 t8) (by simp_all [AM]<;>omega)
  case true=>
   exact CT.pathS mix Try.func146 hb hn (rlet_0 (QN.mk ⟨#[]⟩ c 0 false false 0 0 0 0) t5 t7) (by simp_all [AM]<;>omega)
theorem wit_ct(x y z:Int):CT Try.prog 127 [] [.int .i64 x,.int .i64 y,.int .i64 z] [] (.bool (decide (y<=x)&&decide (x<=z))):=by
 have hb:Try.f127.body=some (zB Try.f127):=by kernel_rfl
 have hn:[AV.int .i64 x,.int .i64 y,.int .i64 z].length<=Try.f127.ntmps:=nL rfl
 cases t9:decide ((QN.mk ⟨#[]⟩ 0 0 false false x y z 0).y<=(QN.mk ⟨#[]⟩ 0 0 false false x y z 0).x)
 case false=>
  exact CT.pathS mix Try.func127 hb hn (wit_1 (QN.mk ⟨#[]⟩ 0 0 false false x y z 0) t9) (by simp_all)
 case true=>
  exact CT.pathS mix Try.func127 hb hn (wit_0 (QN.mk ⟨#[]⟩ 0 0 false false x y z 0) t9) (by simp_all)
theorem QS(s:ByteArray):(AP s).length=s.size:=by simp[AP]
theorem Qb{s:ByteArray}{i:Nat}(h:i<s.size):(AP s)[i]?=some (.int .u8 (bAt s i)):=by
 have h':i<s.data.toList.length:=by simpa using h
 unfold AP bAt
 rw[SI,Sz,Sy h'];rfl
theorem O7{s:ByteArray}(h:(s.toList==(ByteArray.mk #[]).toList)=false):0<s.size:=by
 rcases Nat.eq_zero_or_pos s.size with h0 | h0
 .have:s=ByteArray.mk #[]:=by
   cases s;rename_i d;congr;exact Array.eq_empty_of_size_eq_zero h0
  subst this
  simp at h
 .exact h0
def qN(s:ByteArray)(c:Int)(i:Nat)(b:Bool):QN:=QN.mk s c i b false 0 0 0 0
theorem Nh(s:ByteArray):CT Try.prog 129 [] [.str s] [] (.bool (nmB s)):=by
 have hb:Try.f129.body=some (zB Try.f129):=by kernel_rfl
 have hn:[AV.str s].length<=Try.f129.ntmps:=nL rfl
 have hl:=QS s
 have hle:=NG (bAt s 0)
 unfold nmB
 cases h1:s.toList==(ByteArray.mk #[]).toList
 case true=>exact CT.pathS mix Try.func129 hb hn (nmi_0 (qN s 0 0 false) h1) (by simp)
 have h0:=O7 h1
 cases h2:decide (12<iN s.size)
 case true=>exact CT.pathS mix Try.func129 hb hn (nmi_1 (qN s 0 0 false) h1 h2) (by simp)
 cases h3:AM (bAt s 0)
 case false=>rw[h3] at hle;exact CT.pathS mix Try.func129 hb hn (nmi_2 (qN s 0 0 false) h1 h2 (by simpa [iN,qN] using h0) hle rfl) (by simp)
 rw[h3] at hle
 refine CT.path mix Try.func129 hb hn (nmi_3 (qN s 0 0 true) h1 h2 (by simpa [iN,qN] using h0) hle rfl ?_)
 simp only[Ss,Bool.true_and]
 have h12:s.size<=12:=by have:=of_decide_eq_false h2;simp only[iN] at this;omega
 generalize hrr:fnd (fun i=> !(okB (bAt s i))) 0 s.size=res
 refine T.loop (fun i:Nat=>C6 (qN s 0 i false)) (fun i=>i<=s.size/\fnd (fun i=> !(okB (bAt s i))) i (s.size-i)=res) (fun i=>s.size+1-i) 0 ⟨SK _,hrr⟩ ?_
 rintro i ⟨hi,hf⟩
 by_cases h:i<s.size
 .rw[CN h] at hf
  have hg1:=Qb h
  have dk:decide (iN i<iN (AP s).length)=true:=SE (by simp only[iN,hl];omega)
  have k0:(0:Int)<=iN i:=by simp[iN]
  have hci:=NG (bAt s i)
  have wi:i64.wrap (iN i+1)=((i+1:Nat):Int):=zW i (by omega)
  have next:okB (bAt s i)=true->∀st,Ren 0 st (C6 (qN s 0 (i+1) false))->∃j,Ren 0 st (C6 (qN s 0 j false))/\(j<=s.size/\fnd (fun i=> !(okB (bAt s i))) j (s.size-j)=res)/\s.size+1-j<s.size+1-i:=by
   intro hb st hst
   simp only[hb,Bool.not_true] at hf
   exact⟨i+1,hst,⟨h,hf⟩,by omega⟩
  have stop:okB (bAt s i)=false->res=some i:=by intro hb;simp only[hb,Ss] at hf;exact hf.symm
  cases t10:(!(qN s (bAt s i) i (AM (bAt s i))).b)
  case false=>
   exact T.path mix (nml_7 (qN s (bAt s i) i (AM (bAt s i))) dk (by first | assumption | (exact hg1)) (by first | assumption | (exact hg1)) (by first | assumption | (exact hg1)) t10 (fun st hst=>by simp only[qN,wi] at hst;exact next (by simp_all [okB,qN]) st hst))
  case true=>
   cases t11:decide ((qN s (bAt s i) i (AM (bAt s i))).c<48)
   case false=>
    cases t12:decide (57<(qN s (bAt s i) i (AM (bAt s i))).c)
    case false=>
     exact T.path mix (nml_6 (qN s (bAt s i) i (AM (bAt s i))) dk (by first | assumption | (exact hg1)) (by first | assumption | (exact hg1)) (by first | assumption | (exact hg1)) t10 t11 t12 (fun st hst=>by simp only[qN,wi] at hst;exact next (by simp_all [okB,qN]) st hst))
    case true=>
     cases t13:((qN s (bAt s i) i (AM (bAt s i))).c != 45)
     case false=>
      exact T.path mix (nml_5 (qN s (bAt s i) i (AM (bAt s i))) dk (by first | assumption | (exact hg1)) (by first | assumption | (exact hg1)) (by first | assumption | (exact hg1)) t10 t11 t12 t13 (fun st hst=>by simp only[qN,wi] at hst;exact next (by simp_all [okB,qN]) st hst))
     case true=>
      cases t14:((qN s (bAt s i) i (AM (bAt s i))).c != 95)
      case false=>
       exact T.path mix (nml_4 (qN s (bAt s i) i (AM (bAt s i))) dk (by first | assumption | (exact hg1)) (by first | assumption | (exact hg1)) (by first | assumption | (exact hg1)) t10 t11 t12 t13 t14 (fun st hst=>by simp only[qN,wi] at hst;exact next (by simp_all [okB,qN]) st hst))
      case true=>
       rw[stop (by simp_all [okB,qN])]
       exact T.out mix (nml_3 (qN s (bAt s i) i (AM (bAt s i))) dk (by first | assumption | (exact hg1)) (by first | assumption | (exact hg1)) (by first | assumption | (exact hg1)) t10 t11 t12 t13 t14)
   case true=>
    cases t15:((qN s (bAt s i) i (AM (bAt s i))).c != 45)
    case false=>
     exact T.path mix (nml_2 (qN s (bAt s i) i (AM (bAt s i))) dk (by first | assumption | (exact hg1)) (by first | assumption | (exact hg1)) (by first | assumption | (exact hg1)) t10 t11 t15 (fun st hst=>by simp only[qN,wi] at hst;exact next (by simp_all [okB,qN]) st hst))
    case true=>
     cases t16:((qN s (bAt s i) i (AM (bAt s i))).c != 95)
     case false=>
      exact T.path mix (nml_1 (qN s (bAt s i) i (AM (bAt s i))) dk (by first | assumption | (exact hg1)) (by first | assumption | (exact hg1)) (by first | assumption | (exact hg1)) t10 t11 t15 t16 (fun st hst=>by simp only[qN,wi] at hst;exact next (by simp_all [okB,qN]) st hst))
     case true=>
      rw[stop (by simp_all [okB,qN])]
      exact T.out mix (nml_0 (qN s (bAt s i) i (AM (bAt s i))) dk (by first | assumption | (exact hg1)) (by first | assumption | (exact hg1)) (by first | assumption | (exact hg1)) t10 t11 t15 t16)
 .rw[C5 h] at hf
  subst hf
  exact T.out mix (nml_8 (qN s 0 i false) (SD (by simp only[qN];change ¬iN i<iN (AP s).length;simp only[iN,hl];omega)))
structure AL where
 nm:ByteArray
 x:Int
 y:Int
structure An where
 nm:ByteArray
 dep:Bool
 i:Int
 o:Int
 k:Int
 b:Int
structure Ab where
 bs:List AL
 nx:List (List Int)
 ss:List An
 rs:List Int
 q:Int
 a:Int
 d:Int
 p:Int
def bA(b:AL):AV:=.agg [.str b.nm,.int .i64 b.x,.int .i64 b.y]
def sA(s:An):AV:=.agg [.str s.nm,.bool s.dep,.int .i64 s.i,.int .i64 s.o,.int .i64 s.k,.int .i64 s.b]
def Ag(n:Ab):AV:=.agg [.lst (n.bs.map bA),.lst (gL n.nx),.lst (n.ss.map sA),lI n.rs,.int .i64 n.q,.int .i64 n.a,.int .i64 n.d,.int .i64 n.p]
def nB(n:Ab):Blk:={es:=[Ag n],z:=8}
def mpB(l:List MapEntry)(c:Nat):Blk:={es:=[],z:=0,mp:=some (l,c)}
structure AC where
 n:Ab
 l:List MapEntry
 c:Nat
 l2:List MapEntry
 c2:Nat
 b:AL
 s:An
 r:List Int
 i:Nat
 base:Int
 k:Nat
 ok:Bool
 x:Int
 y:Int
 z:Int
 sp:Bool
 nb:ByteArray
@[irreducible] def Ao(x y z:Int):Bool:=decide (y<=x)&&decide (x<=z)
@[irreducible] def A9(n:Ab):Bool:=Ao n.q 1 8&&Ao n.a 0 4&&Ao n.d 0 3&&Ao n.p 1 16
@[irreducible] def nxE(r:List Int)(i m:Int)(k:Nat):Bool:=decide (r.getD k 0<=BX r k)||decide (m<=r.getD k 0)||r.getD k 0==i
@[irreducible] def nxB(r:List Int)(i m:Int):Bool:= !(fnd (nxE r i m) 0 r.length).isSome&&decide (r.length<=4)
def blkE(n:Ab)(i:Nat):Bool:=match n.bs[i]? with
 | some b=> !(Ao b.x (-9999) 9999&&Ao b.y (-9999) 9999&&nxB (n.nx.getD i []) i n.bs.length)
 | none=>false
@[irreducible] def blsB(n:Ab):Bool:=decide (1<=n.bs.length)&&decide (n.bs.length<=24)&&decide (n.nx.length=n.bs.length)&&!(fnd (blkE n) 0 n.bs.length).isSome
def BZ(n:Ab):List ByteArray:=n.bs.map (·.nm)++n.ss.map (·.nm)
open Classical in
@[irreducible] def nmsB(n:Ab):Bool:=(BZ n).all nmB&&decide (BZ n).Nodup
def AK(q:AC):Nat->FuncId->List AV->List (Option Blk)->AH:=fun dst f args hp=>match f with
 | 144=>match args with
  | [.int _ c]=>.call [] [] [] (.bool (AM c))
  | _=>.no
 | 146=>match args with
  | [.int _ c]=>.call [] [] [] (.bool (AM c))
  | _=>.no
 | 127=>match args with
  | [.int _ x,.int _ y,.int _ z]=>.call [] [] [] (.bool (Ao x y z))
  | _=>.no
 | 128=>.call [] [] [] (.bool (A9 q.n))
 | 115=>.call [] [] [] (.bool (A9 q.n))
 | 129=>match args with
  | [.str s]=>.call [] [] [] (.bool (nmB s))
  | _=>.no
 | 140=>match args with
  | [.str s]=>.call [] [] [] (.bool (nmB s))
  | _=>.no
 | 130=>match args with
  | [.lst l,.int _ i,.int _ m]=>.call [] [] [] (.bool (nxB q.r i m))
  | _=>.no
 | 113=>.call [] [] [] (.bool (blsB q.n))
 | 114=>.call [] [] [] (.bool (nmsB q.n))
 | 26=>.call [] [] [] (.bool q.ok)
 | _=>.no
def BK(q:AC):List (Nat×AV):=[]
def Kg(q:AC):St:={n:=Try.f140.ntmps,fr:=[(0,.str q.nb)],hp:=[]}
def Dg(q:AC):St:={n:=Try.f140.ntmps,fr:=[(0,.str q.nb),(3,.int .i64 (iN q.i))],hp:=[]}
def JY(q:AC):St:={n:=Try.f128.ntmps,fr:=[(0,.agg [.int .i64 q.n.q,.int .i64 q.n.a,.int .i64 q.n.d,.int .i64 q.n.p])],hp:=[]}
def Fg(q:AC):St:={n:=Try.f115.ntmps,fr:=[(0,.agg [.int .i64 q.n.q,.int .i64 q.n.a,.int .i64 q.n.d,.int .i64 q.n.p])],hp:=[]}
def st152(q:AC):St:={n:=Try.f130.ntmps,fr:=[(0,lI q.r),(1,.int .i64 q.x),(2,.int .i64 q.y)],hp:=[]}
def Fw(q:AC):St:={n:=Try.f130.ntmps,fr:=[(0,lI q.r),(1,.int .i64 q.x),(2,.int .i64 q.y),(7,.int .i64 q.z),(10,lI q.r),(11,.int .i64 (iN (q.r.map (AV.int .i64)).length)),(12,.int .i64 (iN q.i))],hp:=[]}
def Hf(q:AC):List (Nat×AV):=[(14,.int .i64 q.base)]
def Hs(q:AC):St:={n:=Try.f93.ntmps,fr:=[(0,Ag q.n)],hp:=[]}
def D4(q:AC):St:={n:=Try.f93.ntmps,fr:=[(1,.ptr 0 0 0),(3,.map 1),(47,.lst (q.n.bs.map bA)),(48,.int .i64 (iN (q.n.bs.map bA).length)),(49,.int .i64 (iN q.i))],hp:=[some (nB q.n),some (mpB q.l q.c)]}
def CO(q:AC):St:={n:=Try.f93.ntmps,fr:=[(1,.ptr 0 0 0),(3,.map 1),(6,.int .i64 q.base),(7,.map 2),(94,.lst (q.n.ss.map sA)),(95,.int .i64 (iN (q.n.ss.map sA).length)),(96,.int .i64 (iN q.i))],hp:=[some (nB q.n),some (mpB q.l q.c),some (mpB q.l2 q.c2)]}
def spB(s:An):Blk:={es:=[sA s],z:=6}
def EF(q:AC):St:={n:=Try.f93.ntmps,fr:=[(1,.ptr 0 0 0),(3,.map 1),(6,.int .i64 q.base),(7,.map 2),(9,.ptr 3 0 0),(94,.lst (q.n.ss.map sA)),(95,.int .i64 (iN (q.n.ss.map sA).length)),(96,.int .i64 (iN q.i)),(142,.int .i64 q.s.k),(143,.int .i64 (iN q.k))],hp:=[some (nB q.n),some (mpB q.l q.c),some (mpB q.l2 q.c2),some (spB q.s)]}
def FO(q:AC):St:={n:=Try.f93.ntmps,fr:=[(7,.map 0),(10,.bool q.ok),(169,lI q.n.rs),(170,.int .i64 (iN (q.n.rs.map (AV.int .i64)).length)),(171,.int .i64 (iN q.i))],hp:=[some (mpB q.l2 q.c2)]}
def BA(q:AC):List (Nat×AV):=[(52,bA q.b),(79,lI q.r),(98,sA q.s),(173,.int .i64 q.x)]
theorem rni_0(q:AC)(h1:((q.nb.toList==(ByteArray.mk #[]).toList)=true)):GoP Try.prog (hU [15] (BK q) (AK q)) 0 (zB Try.f140) (Kg q) (Fin Try.prog Try.f140 0 [] (AV.bool false)):=
 zF (σ:=[]) (fz:=[]) (by kernel_rfl) (aj (u2 (aj (u2 (u2 (u2 (aj h1 (aj h1 (aj h1 (ag h1 (u2 (ak (k3 (al t3))))))))))) (ak s2))) t2)
theorem rni_1(q:AC)(h1:((q.nb.toList==(ByteArray.mk #[]).toList)=false))(h2:(decide (12<iN q.nb.size)=true)):GoP Try.prog (hU [14,25] (BK q) (AK q)) 0 (zB Try.f140) (Kg q) (Fin Try.prog Try.f140 0 [] (AV.bool false)):=
 zF (σ:=[]) (fz:=[]) (by kernel_rfl) (aj (u2 (aj (u2 (u2 (u2 (ag h1 (ag h1 (ag h1 (ag h1 (u2 (aj h2 (aj h2 (aj h2 (aj h2 (al (aj h2 t2)))))))))))))) (ak s2))) t2)
theorem rni_2(q:AC)(h1:((q.nb.toList==(ByteArray.mk #[]).toList)=false))(h2:(decide (12<iN q.nb.size)=false))(h3:(0<iN q.nb.size))(h4:(CT Try.prog 146 [] [AV.int IntKind.u8 (bAt q.nb (Int.toNat 0))] [] (AV.bool (AM (bAt q.nb (Int.toNat 0))))))(h5:((!AM (bAt q.nb (Int.toNat 0)))=true)):GoP Try.prog (hU [14,24,35] (BK q) (AK q)) 0 (zB Try.f140) (Kg q) (Fin Try.prog Try.f140 0 [] (AV.bool false)):=
 zF (σ:=[]) (fz:=[]) (by kernel_rfl) (aj (u2 (aj (u2 (u2 (u2 (ag h1 (ag h1 (ag h1 (ag h1 (u2 (ag h2 (aj (aj h2 (ak (aj (show((0:Int)<=(0:Int)) by first | exact nL rfl | decide) h3))) (aj (aj h2 (k2 (al h4))) (ag h2 (al (aj h2 t2)))))))))))))) (aj h5 s2))) t2)
theorem rni_3(q:AC)(h1:((q.nb.toList==(ByteArray.mk #[]).toList)=false))(h2:(decide (12<iN q.nb.size)=false))(h3:(0<iN q.nb.size))(h4:(CT Try.prog 146 [] [AV.int IntKind.u8 (bAt q.nb (Int.toNat 0))] [] (AV.bool (AM (bAt q.nb (Int.toNat 0))))))(h5:((!AM (bAt q.nb (Int.toNat 0)))=false)){post:Exit->St->Prop}(ht:T Try.prog 0 (.loop (zC (zB Try.f140) 0)) (St.mk 46 [(0,AV.str q.nb),(3,iv 0)] []) (TK Try.prog 0 post (zK (zB Try.f140) 0))):GoP Try.prog (hU [14,24,34] (BK q) (AK q)) 0 (zB Try.f140) (Kg q) post:=
 zR (σ:=[]) (fz:=[]) (vars:=[0,3]) (by kernel_rfl) (aj (u2 (aj (u2 (u2 (u2 (ag h1 (ag h1 (ag h1 (ag h1 (u2 (ag h2 (aj (aj h2 (ak (aj (show((0:Int)<=(0:Int)) by first | exact nL rfl | decide) h3))) (aj (aj h2 (k2 (al h4))) (ag h2 (al (aj h2 t2)))))))))))))) (aj h5 s2))) t3) ht
theorem rnl_0(q:AC)(h1:(decide (iN q.i<iN q.nb.size)=true))(h2:(0<=iN q.i))(h3:(iN q.i<iN q.nb.size))(h4:(CT Try.prog 146 [] [AV.int IntKind.u8 (bAt q.nb (iN q.i).toNat)] [] (AV.bool (AM (bAt q.nb (iN q.i).toNat)))))(h5:((!AM (bAt q.nb (iN q.i).toNat))=true))(h6:(decide (bAt q.nb (iN q.i).toNat<48)=true))(h7:((bAt q.nb (iN q.i).toNat != 45)=true))(h8:((bAt q.nb (iN q.i).toNat != 95)=true)):GoO Try.prog (hU [43,61,67,85,91] (BK q) (AK q)) 0 (zC (zB Try.f140) 0) (zK (zB Try.f140) 0) (Dg q) (Fin Try.prog Try.f140 0 [] (AV.bool false)):=
 zF (σ:=[]) (fz:=[]) (by kernel_rfl) (aj (al (aj (u2 (u2 (u2 (al t3)))) (aj h1 (aj (u2 (u2 (aj (k2 (aj h2 h3)) s2))) (aj (u2 (aj (k2 (al h4)) (u2 (u2 (ag h5 (ag h5 (ag h5 (aj h6 (aj h6 (aj (aj h5 (aj h6 t2)) (ag h5 (u2 (aj t3 (aj t3 (aj t3 (u2 (ag h7 (ag h7 (al (aj h7 t2)))))))))))))))))))) (aj h8 s2)))))) t2)
theorem rnl_1(q:AC)(h1:(decide (iN q.i<iN q.nb.size)=true))(h2:(0<=iN q.i))(h3:(iN q.i<iN q.nb.size))(h4:(CT Try.prog 146 [] [AV.int IntKind.u8 (bAt q.nb (iN q.i).toNat)] [] (AV.bool (AM (bAt q.nb (iN q.i).toNat)))))(h5:((!AM (bAt q.nb (iN q.i).toNat))=true))(h6:(decide (bAt q.nb (iN q.i).toNat<48)=true))(h7:((bAt q.nb (iN q.i).toNat != 45)=true))(h8:((bAt q.nb (iN q.i).toNat != 95)=false)){post:Exit->St->Prop}{R:St->Prop}(hR:∀st,Ren 0 st (St.mk 46 [(0,AV.str q.nb),(3,iv (i64.wrap (iN q.i+1)))] [])->R st):GoP Try.prog (hU [43,61,67,85,90] (BK q) (AK q)) 0 (zC (zB Try.f140) 0) (Dg q) (andThen R post):=
 zN (σ:=[]) (fz:=[]) (vars:=[0,3]) (by kernel_rfl) (aj (aj (u2 (u2 (u2 (al t3)))) (aj h1 (aj (u2 (u2 (aj (k2 (aj h2 h3)) s2))) (aj (u2 (aj (k2 (al h4)) (u2 (u2 (ag h5 (ag h5 (ag h5 (aj h6 (aj h6 (aj (aj h5 (aj h6 t2)) (ag h5 (u2 (aj t3 (aj t3 (aj t3 (u2 (ag h7 (ag h7 (al (aj h7 t2)))))))))))))))))))) (aj h8 (al (u2 (u2 s2)))))))) t3) hR
theorem rnl_2(q:AC)(h1:(decide (iN q.i<iN q.nb.size)=true))(h2:(0<=iN q.i))(h3:(iN q.i<iN q.nb.size))(h4:(CT Try.prog 146 [] [AV.int IntKind.u8 (bAt q.nb (iN q.i).toNat)] [] (AV.bool (AM (bAt q.nb (iN q.i).toNat)))))(h5:((!AM (bAt q.nb (iN q.i).toNat))=true))(h6:(decide (bAt q.nb (iN q.i).toNat<48)=true))(h7:((bAt q.nb (iN q.i).toNat != 45)=false)){post:Exit->St->Prop}{R:St->Prop}(hR:∀st,Ren 0 st (St.mk 46 [(0,AV.str q.nb),(3,iv (i64.wrap (iN q.i+1)))] [])->R st):GoP Try.prog (hU [43,61,67,84] (BK q) (AK q)) 0 (zC (zB Try.f140) 0) (Dg q) (andThen R post):=
 zN (σ:=[]) (fz:=[]) (vars:=[0,3]) (by kernel_rfl) (aj (aj (u2 (u2 (u2 (al t3)))) (aj h1 (aj (u2 (u2 (aj (k2 (aj h2 h3)) s2))) (aj (u2 (aj (k2 (al h4)) (u2 (u2 (ag h5 (ag h5 (ag h5 (aj h6 (aj h6 (aj (aj h5 (aj h6 t2)) (ag h5 (u2 (aj t3 (aj t3 (aj t3 (u2 (aj h7 (aj h7 (al (aj h7 t2)))))))))))))))))))) (ak (al (u2 (u2 s2)))))))) t3) hR
theorem rnl_3(q:AC)(h1:(decide (iN q.i<iN q.nb.size)=true))(h2:(0<=iN q.i))(h3:(iN q.i<iN q.nb.size))(h4:(CT Try.prog 146 [] [AV.int IntKind.u8 (bAt q.nb (iN q.i).toNat)] [] (AV.bool (AM (bAt q.nb (iN q.i).toNat)))))(h5:((!AM (bAt q.nb (iN q.i).toNat))=true))(h6:(decide (bAt q.nb (iN q.i).toNat<48)=false))(h7:(decide (57<bAt q.nb (iN q.i).toNat)=true))(h8:((bAt q.nb (iN q.i).toNat != 45)=true))(h9:((bAt q.nb (iN q.i).toNat != 95)=true)):GoO Try.prog (hU [43,61,66,77,85,91] (BK q) (AK q)) 0 (zC (zB Try.f140) 0) (zK (zB Try.f140) 0) (Dg q) (Fin Try.prog Try.f140 0 [] (AV.bool false)):=
 zF (σ:=[]) (fz:=[]) (by kernel_rfl) (aj (al (aj (u2 (u2 (u2 (al t3)))) (aj h1 (aj (u2 (u2 (aj (k2 (aj h2 h3)) s2))) (aj (u2 (aj (k2 (al h4)) (u2 (u2 (ag h5 (ag h5 (ag h5 (ag h6 (ag h6 (aj (aj h5 (aj h6 t2)) (ag h5 (u2 (ag h7 (ag h7 (ag h7 (u2 (ag h8 (ag h8 (al (aj h8 t2)))))))))))))))))))) (aj h9 s2)))))) t2)
theorem rnl_4(q:AC)(h1:(decide (iN q.i<iN q.nb.size)=true))(h2:(0<=iN q.i))(h3:(iN q.i<iN q.nb.size))(h4:(CT Try.prog 146 [] [AV.int IntKind.u8 (bAt q.nb (iN q.i).toNat)] [] (AV.bool (AM (bAt q.nb (iN q.i).toNat)))))(h5:((!AM (bAt q.nb (iN q.i).toNat))=true))(h6:(decide (bAt q.nb (iN q.i).toNat<48)=false))(h7:(decide (57<bAt q.nb (iN q.i).toNat)=true))(h8:((bAt q.nb (iN q.i).toNat != 45)=true))(h9:((bAt q.nb (iN q.i).toNat != 95)=false)){post:Exit->St->Prop}{R:St->Prop}(hR:∀st,Ren 0 st (St.mk 46 [(0,AV.str q.nb),(3,iv (i64.wrap (iN q.i+1)))] [])->R st):GoP Try.prog (hU [43,61,66,77,85,90] (BK q) (AK q)) 0 (zC (zB Try.f140) 0) (Dg q) (andThen R post):=
 zN (σ:=[]) (fz:=[]) (vars:=[0,3]) (by kernel_rfl) (aj (aj (u2 (u2 (u2 (al t3)))) (aj h1 (aj (u2 (u2 (aj (k2 (aj h2 h3)) s2))) (aj (u2 (aj (k2 (al h4)) (u2 (u2 (ag h5 (ag h5 (ag h5 (ag h6 (ag h6 (aj (aj h5 (aj h6 t2)) (ag h5 (u2 (ag h7 (ag h7 (ag h7 (u2 (ag h8 (ag h8 (al (aj h8 t2)))))))))))))))))))) (aj h9 (al (u2 (u2 s2)))))))) t3) hR
theorem rnl_5(q:AC)(h1:(decide (iN q.i<iN q.nb.size)=true))(h2:(0<=iN q.i))(h3:(iN q.i<iN q.nb.size))(h4:(CT Try.prog 146 [] [AV.int IntKind.u8 (bAt q.nb (iN q.i).toNat)] [] (AV.bool (AM (bAt q.nb (iN q.i).toNat)))))(h5:((!AM (bAt q.nb (iN q.i).toNat))=true))(h6:(decide (bAt q.nb (iN q.i).toNat<48)=false))(h7:(decide (57<bAt q.nb (iN q.i).toNat)=true))(h8:((bAt q.nb (iN q.i).toNat != 45)=false)){post:Exit->St->Prop}{R:St->Prop}(hR:∀st,Ren 0 st (St.mk 46 [(0,AV.str q.nb),(3,iv (i64.wrap (iN q.i+1)))] [])->R st):GoP Try.prog (hU [43,61,66,77,84] (BK q) (AK q)) 0 (zC (zB Try.f140) 0) (Dg q) (andThen R post):=
 zN (σ:=[]) (fz:=[]) (vars:=[0,3]) (by kernel_rfl) (aj (aj (u2 (u2 (u2 (al t3)))) (aj h1 (aj (u2 (u2 (aj (k2 (aj h2 h3)) s2))) (aj (u2 (aj (k2 (al h4)) (u2 (u2 (ag h5 (ag h5 (ag h5 (ag h6 (ag h6 (aj (aj h5 (aj h6 t2)) (ag h5 (u2 (ag h7 (ag h7 (ag h7 (u2 (aj h8 (aj h8 (al (aj h8 t2)))))))))))))))))))) (ak (al (u2 (u2 s2)))))))) t3) hR
theorem rnl_6(q:AC)(h1:(decide (iN q.i<iN q.nb.size)=true))(h2:(0<=iN q.i))(h3:(iN q.i<iN q.nb.size))(h4:(CT Try.prog 146 [] [AV.int IntKind.u8 (bAt q.nb (iN q.i).toNat)] [] (AV.bool (AM (bAt q.nb (iN q.i).toNat)))))(h5:((!AM (bAt q.nb (iN q.i).toNat))=true))(h6:(decide (bAt q.nb (iN q.i).toNat<48)=false))(h7:(decide (57<bAt q.nb (iN q.i).toNat)=false)){post:Exit->St->Prop}{R:St->Prop}(hR:∀st,Ren 0 st (St.mk 46 [(0,AV.str q.nb),(3,iv (i64.wrap (iN q.i+1)))] [])->R st):GoP Try.prog (hU [43,61,66,76] (BK q) (AK q)) 0 (zC (zB Try.f140) 0) (Dg q) (andThen R post):=
 zN (σ:=[]) (fz:=[]) (vars:=[0,3]) (by kernel_rfl) (aj (aj (u2 (u2 (u2 (al t3)))) (aj h1 (aj (u2 (u2 (aj (k2 (aj h2 h3)) s2))) (aj (u2 (aj (k2 (al h4)) (u2 (u2 (ag h5 (ag h5 (ag h5 (ag h6 (ag h6 (aj (aj h5 (aj h6 t2)) (ag h5 (u2 (aj h7 (aj h7 (ag h7 (u2 (k2 (al t3)))))))))))))))))) (ak (al (u2 (u2 s2)))))))) t3) hR
theorem rnl_7(q:AC)(h1:(decide (iN q.i<iN q.nb.size)=true))(h2:(0<=iN q.i))(h3:(iN q.i<iN q.nb.size))(h4:(CT Try.prog 146 [] [AV.int IntKind.u8 (bAt q.nb (iN q.i).toNat)] [] (AV.bool (AM (bAt q.nb (iN q.i).toNat)))))(h5:((!AM (bAt q.nb (iN q.i).toNat))=false)){post:Exit->St->Prop}{R:St->Prop}(hR:∀st,Ren 0 st (St.mk 46 [(0,AV.str q.nb),(3,iv (i64.wrap (iN q.i+1)))] [])->R st):GoP Try.prog (hU [43,60] (BK q) (AK q)) 0 (zC (zB Try.f140) 0) (Dg q) (andThen R post):=
 zN (σ:=[]) (fz:=[]) (vars:=[0,3]) (by kernel_rfl) (aj (aj (u2 (u2 (u2 (al t3)))) (aj h1 (aj (u2 (u2 (aj (k2 (aj h2 h3)) s2))) (aj (u2 (aj (k2 (al h4)) (u2 (u2 (aj h5 (aj h5 (aj h5 (k2 (aj h5 (ag h5 (u2 (k2 (aj t3 (u2 (k2 (al t3)))))))))))))))) (ak (al (u2 (u2 s2)))))))) t3) hR
theorem rnl_8(q:AC)(h1:(decide (iN q.i<iN q.nb.size)=false)):GoO Try.prog (hU [42] (BK q) (AK q)) 0 (zC (zB Try.f140) 0) (zK (zB Try.f140) 0) (Dg q) (Fin Try.prog Try.f140 0 [] (AV.bool true)):=
 zF (σ:=[]) (fz:=[]) (by kernel_rfl) (aj (aj (aj (u2 (u2 (u2 (al t3)))) (al h1)) s2) t2)
theorem mvc_0(q:AC)(h1:(CT Try.prog 127 [] [iv q.n.q,iv 1,iv 8] [] (AV.bool (Ao q.n.q 1 8))))(h2:(Ao q.n.q 1 8=true))(h3:(CT Try.prog 127 [] [iv q.n.a,iv 0,iv 4] [] (AV.bool (Ao q.n.a 0 4))))(h4:(Ao q.n.a 0 4=true))(h5:(CT Try.prog 127 [] [iv q.n.d,iv 0,iv 3] [] (AV.bool (Ao q.n.d 0 3))))(h6:(Ao q.n.d 0 3=true))(h7:(CT Try.prog 127 [] [iv q.n.p,iv 1,iv 16] [] (AV.bool (Ao q.n.p 1 16)))):GoP Try.prog (hU [13,23,33] (BK q) (AK q)) 0 (zB Try.f128) (JY q) (Fin Try.prog Try.f128 0 [] (AV.bool (Ao q.n.p 1 16))):=
 zF (σ:=[]) (fz:=[]) (by kernel_rfl) (aj (ag t2 (al (u2 (u2 (aj (ak (k3 (al h1))) (u2 (ag h2 (ag h2 (aj (aj h2 (ak (k3 (al h3)))) (ag h2 (u2 (ag h4 (ag h4 (aj (aj h4 (ak (k3 (al h5)))) (ag h4 (u2 (ag h6 (ag h6 (aj (aj h6 (ak (k3 (al h7)))) (ag h6 s2)))))))))))))))))))) t2)
theorem mvc_1(q:AC)(h1:(CT Try.prog 127 [] [iv q.n.q,iv 1,iv 8] [] (AV.bool (Ao q.n.q 1 8))))(h2:(Ao q.n.q 1 8=true))(h3:(CT Try.prog 127 [] [iv q.n.a,iv 0,iv 4] [] (AV.bool (Ao q.n.a 0 4))))(h4:(Ao q.n.a 0 4=true))(h5:(CT Try.prog 127 [] [iv q.n.d,iv 0,iv 3] [] (AV.bool (Ao q.n.d 0 3))))(h6:(Ao q.n.d 0 3=false)):GoP Try.prog (hU [13,23,32] (BK q) (AK q)) 0 (zB Try.f128) (JY q) (Fin Try.prog Try.f128 0 [] (AV.bool false)):=
 zF (σ:=[]) (fz:=[]) (by kernel_rfl) (aj (ag t2 (al (u2 (u2 (aj (ak (k3 (al h1))) (u2 (ag h2 (ag h2 (aj (aj h2 (ak (k3 (al h3)))) (ag h2 (u2 (ag h4 (ag h4 (aj (aj h4 (ak (k3 (al h5)))) (ag h4 (u2 (aj h6 (aj h6 (aj h6 (ag h6 s2)))))))))))))))))))) t2)
theorem mvc_2(q:AC)(h1:(CT Try.prog 127 [] [iv q.n.q,iv 1,iv 8] [] (AV.bool (Ao q.n.q 1 8))))(h2:(Ao q.n.q 1 8=true))(h3:(CT Try.prog 127 [] [iv q.n.a,iv 0,iv 4] [] (AV.bool (Ao q.n.a 0 4))))(h4:(Ao q.n.a 0 4=false)):GoP Try.prog (hU [13,22] (BK q) (AK q)) 0 (zB Try.f128) (JY q) (Fin Try.prog Try.f128 0 [] (AV.bool false)):=
 zF (σ:=[]) (fz:=[]) (by kernel_rfl) (aj (ag t2 (al (u2 (u2 (aj (ak (k3 (al h1))) (u2 (ag h2 (ag h2 (aj (aj h2 (ak (k3 (al h3)))) (ag h2 (u2 (aj h4 (aj h4 (aj h4 (ag h4 (u2 (k3 (aj t3 s2)))))))))))))))))) t2)
theorem mvc_3(q:AC)(h1:(CT Try.prog 127 [] [iv q.n.q,iv 1,iv 8] [] (AV.bool (Ao q.n.q 1 8))))(h2:(Ao q.n.q 1 8=false)):GoP Try.prog (hU [12] (BK q) (AK q)) 0 (zB Try.f128) (JY q) (Fin Try.prog Try.f128 0 [] (AV.bool false)):=
 zF (σ:=[]) (fz:=[]) (by kernel_rfl) (aj (ag t2 (al (u2 (u2 (aj (ak (k3 (al h1))) (u2 (aj h2 (aj h2 (aj h2 (ag h2 (u2 (k3 (aj t3 (u2 (k3 (aj t3 s2)))))))))))))))) t2)
theorem cg_0(q:AC)(h1:(decide (1<=q.n.q)=true))(h2:(decide (q.n.q<=8)=true))(h3:(decide (0<=q.n.a)=true))(h4:(decide (q.n.a<=4)=true))(h5:(decide (0<=q.n.d)=true))(h6:(decide (q.n.d<=3)=true))(h7:(decide (1<=q.n.p)=true)):GoP Try.prog (hU [13,23,33,43,53,63,73] (BK q) (AK q)) 0 (zB Try.f115) (Fg q) (Fin Try.prog Try.f115 0 [] (AV.bool (decide (q.n.p<=16)))):=
 zF (σ:=[]) (fz:=[]) (by kernel_rfl) (aj (ag t2 (al (u2 (u2 (u2 (u2 (ag h1 (ag h1 (ag h1 (ag h1 (u2 (ag h2 (ag h2 (ag h2 (ag h2 (u2 (ag h3 (ag h3 (ag h3 (ag h3 (u2 (ag h4 (ag h4 (ag h4 (ag h4 (u2 (ag h5 (ag h5 (ag h5 (ag h5 (u2 (ag h6 (ag h6 (ag h6 (ag h6 (u2 (ag h7 (ag h7 (ag h7 (ag h7 s2)))))))))))))))))))))))))))))))))))))))) t2)
theorem cg_1(q:AC)(h1:(decide (1<=q.n.q)=true))(h2:(decide (q.n.q<=8)=true))(h3:(decide (0<=q.n.a)=true))(h4:(decide (q.n.a<=4)=true))(h5:(decide (0<=q.n.d)=true))(h6:(decide (q.n.d<=3)=true))(h7:(decide (1<=q.n.p)=false)):GoP Try.prog (hU [13,23,33,43,53,63,72] (BK q) (AK q)) 0 (zB Try.f115) (Fg q) (Fin Try.prog Try.f115 0 [] (AV.bool false)):=
 zF (σ:=[]) (fz:=[]) (by kernel_rfl) (aj (ag t2 (al (u2 (u2 (u2 (u2 (ag h1 (ag h1 (ag h1 (ag h1 (u2 (ag h2 (ag h2 (ag h2 (ag h2 (u2 (ag h3 (ag h3 (ag h3 (ag h3 (u2 (ag h4 (ag h4 (ag h4 (ag h4 (u2 (ag h5 (ag h5 (ag h5 (ag h5 (u2 (ag h6 (ag h6 (ag h6 (ag h6 (u2 (aj h7 (aj h7 (aj h7 (ag h7 s2)))))))))))))))))))))))))))))))))))))))) t2)
theorem cg_2(q:AC)(h1:(decide (1<=q.n.q)=true))(h2:(decide (q.n.q<=8)=true))(h3:(decide (0<=q.n.a)=true))(h4:(decide (q.n.a<=4)=true))(h5:(decide (0<=q.n.d)=true))(h6:(decide (q.n.d<=3)=false)):GoP Try.prog (hU [13,23,33,43,53,62] (BK q) (AK q)) 0 (zB Try.f115) (Fg q) (Fin Try.prog Try.f115 0 [] (AV.bool false)):=
 zF (σ:=[]) (fz:=[]) (by kernel_rfl) (aj (ag t2 (al (u2 (u2 (u2 (u2 (ag h1 (ag h1 (ag h1 (ag h1 (u2 (ag h2 (ag h2 (ag h2 (ag h2 (u2 (ag h3 (ag h3 (ag h3 (ag h3 (u2 (ag h4 (ag h4 (ag h4 (ag h4 (u2 (ag h5 (ag h5 (ag h5 (ag h5 (u2 (aj h6 (aj h6 (aj h6 (ag h6 (u2 (k3 (aj t3 s2)))))))))))))))))))))))))))))))))))))) t2)
theorem cg_3(q:AC)(h1:(decide (1<=q.n.q)=true))(h2:(decide (q.n.q<=8)=true))(h3:(decide (0<=q.n.a)=true))(h4:(decide (q.n.a<=4)=true))(h5:(decide (0<=q.n.d)=false)):GoP Try.prog (hU [13,23,33,43,52] (BK q) (AK q)) 0 (zB Try.f115) (Fg q) (Fin Try.prog Try.f115 0 [] (AV.bool false)):=
 zF (σ:=[]) (fz:=[]) (by kernel_rfl) (aj (ag t2 (al (u2 (u2 (u2 (u2 (ag h1 (ag h1 (ag h1 (ag h1 (u2 (ag h2 (ag h2 (ag h2 (ag h2 (u2 (ag h3 (ag h3 (ag h3 (ag h3 (u2 (ag h4 (ag h4 (ag h4 (ag h4 (u2 (aj h5 (aj h5 (aj h5 (ag h5 (u2 (k3 (aj t3 (u2 (k3 (aj t3 s2)))))))))))))))))))))))))))))))))))) t2)
theorem cg_4(q:AC)(h1:(decide (1<=q.n.q)=true))(h2:(decide (q.n.q<=8)=true))(h3:(decide (0<=q.n.a)=true))(h4:(decide (q.n.a<=4)=false)):GoP Try.prog (hU [13,23,33,42] (BK q) (AK q)) 0 (zB Try.f115) (Fg q) (Fin Try.prog Try.f115 0 [] (AV.bool false)):=
 zF (σ:=[]) (fz:=[]) (by kernel_rfl) (aj (ag t2 (al (u2 (u2 (u2 (u2 (ag h1 (ag h1 (ag h1 (ag h1 (u2 (ag h2 (ag h2 (ag h2 (ag h2 (u2 (ag h3 (ag h3 (ag h3 (ag h3 (u2 (aj h4 (aj h4 (aj h4 (ag h4 (u2 (k3 (aj t3 (u2 (k3 (aj t3 (u2 (k3 (aj t3 s2)))))))))))))))))))))))))))))))))) t2)
theorem cg_5(q:AC)(h1:(decide (1<=q.n.q)=true))(h2:(decide (q.n.q<=8)=true))(h3:(decide (0<=q.n.a)=false)):GoP Try.prog (hU [13,23,32] (BK q) (AK q)) 0 (zB Try.f115) (Fg q) (Fin Try.prog Try.f115 0 [] (AV.bool false)):=
 zF (σ:=[]) (fz:=[]) (by kernel_rfl) (aj (ag t2 (al (u2 (u2 (u2 (u2 (ag h1 (ag h1 (ag h1 (ag h1 (u2 (ag h2 (ag h2 (ag h2 (ag h2 (u2 (aj h3 (aj h3 (aj h3 (ag h3 (u2 (k3 (aj t3 (u2 (k3 (aj t3 (u2 (k3 (aj t3 (u2 (k3 (aj t3 s2)))))))))))))))))))))))))))))))) t2)
theorem cg_6(q:AC)(h1:(decide (1<=q.n.q)=true))(h2:(decide (q.n.q<=8)=false)):GoP Try.prog (hU [13,22] (BK q) (AK q)) 0 (zB Try.f115) (Fg q) (Fin Try.prog Try.f115 0 [] (AV.bool false)):=
 zF (σ:=[]) (fz:=[]) (by kernel_rfl) (aj (ag t2 (al (u2 (u2 (u2 (u2 (ag h1 (ag h1 (ag h1 (ag h1 (u2 (aj h2 (aj h2 (aj h2 (ag h2 (u2 (k3 (aj t3 (u2 (k3 (aj t3 (u2 (k3 (aj t3 (u2 (k3 (aj t3 (u2 (k3 (aj t3 s2)))))))))))))))))))))))))))))) t2)
theorem cg_7(q:AC)(h1:(decide (1<=q.n.q)=false)):GoP Try.prog (hU [12] (BK q) (AK q)) 0 (zB Try.f115) (Fg q) (Fin Try.prog Try.f115 0 [] (AV.bool false)):=
 zF (σ:=[]) (fz:=[]) (by kernel_rfl) (aj (ag t2 (al (u2 (u2 (u2 (u2 (aj h1 (aj h1 (aj h1 (ag h1 (u2 (k3 (aj t3 (u2 (k3 (aj t3 (u2 (k3 (aj t3 (u2 (k3 (aj t3 (u2 (k3 (aj t3 (u2 (k3 (aj t3 s2)))))))))))))))))))))))))))) t2)
theorem vni_0(q:AC){post:Exit->St->Prop}(ht:T Try.prog 0 (.loop (zC (zB Try.f130) 0)) (St.mk 34 [(0,AV.lst (List.map (iv) q.r)),(1,iv q.x),(2,iv q.y),(7,iv (-1)),(10,AV.lst (List.map (iv) q.r)),(11,iv (iN (List.map (iv) q.r).length)),(12,iv 0)] []) (TK Try.prog 0 post (zK (zB Try.f130) 0))):GoP Try.prog (hU [] (Hf q) (AK q)) 0 (zB Try.f130) (st152 q) post:=
 zR (σ:=[]) (fz:=[]) (vars:=[0,1,2,7,10,11,12]) (by kernel_rfl) (aj (u2 (u2 (al (u2 (u2 t2))))) t8) ht
theorem vnl_0(q:AC)(h1:(decide (iN q.i<iN (List.map (iv) q.r).length)=true))(h2:(0<=iN q.i))(h3:((List.map (iv) q.r)[(iN q.i).toNat]?=some (iv q.base)))(h4:(decide (q.base<=q.z)=true)):GoO Try.prog (hU [27,39] (Hf q) (AK q)) 0 (zC (zB Try.f130) 0) (zK (zB Try.f130) 0) (Fw q) (Fin Try.prog Try.f130 0 [] (AV.bool false)):=
 zF (σ:=[]) (fz:=[]) (by kernel_rfl) (aj (al (aj (al t3) (aj h1 (aj (aj (k2 (aj h2 h3)) (u2 s2)) (aj (u2 (u2 (aj t3 (u2 (aj h4 (aj h4 (aj h4 (ag h4 (u2 (k3 (al t3))))))))))) (ak s2)))))) t2)
theorem vnl_1(q:AC)(h1:(decide (iN q.i<iN (List.map (iv) q.r).length)=true))(h2:(0<=iN q.i))(h3:((List.map (iv) q.r)[(iN q.i).toNat]?=some (iv q.base)))(h4:(decide (q.base<=q.z)=false))(h5:(decide (q.y<=q.base)=true)):GoO Try.prog (hU [27,38,49] (Hf q) (AK q)) 0 (zC (zB Try.f130) 0) (zK (zB Try.f130) 0) (Fw q) (Fin Try.prog Try.f130 0 [] (AV.bool false)):=
 zF (σ:=[]) (fz:=[]) (by kernel_rfl) (aj (al (aj (al t3) (aj h1 (aj (aj (k2 (aj h2 h3)) (u2 s2)) (aj (u2 (u2 (aj t3 (u2 (ag h4 (ag h4 (aj (aj h4 t3) (ag h4 (u2 (aj h5 (aj h5 (aj h5 (al (aj h5 t2)))))))))))))) (ak s2)))))) t2)
theorem vnl_2(q:AC)(h1:(decide (iN q.i<iN (List.map (iv) q.r).length)=true))(h2:(0<=iN q.i))(h3:((List.map (iv) q.r)[(iN q.i).toNat]?=some (iv q.base)))(h4:(decide (q.base<=q.z)=false))(h5:(decide (q.y<=q.base)=false))(h6:((q.base==q.x)=true)):GoO Try.prog (hU [27,38,48,57] (Hf q) (AK q)) 0 (zC (zB Try.f130) 0) (zK (zB Try.f130) 0) (Fw q) (Fin Try.prog Try.f130 0 [] (AV.bool false)):=
 zF (σ:=[]) (fz:=[]) (by kernel_rfl) (aj (al (aj (al t3) (aj h1 (aj (aj (k2 (aj h2 h3)) (u2 s2)) (aj (u2 (u2 (aj t3 (u2 (ag h4 (ag h4 (aj (aj h4 t3) (ag h4 (u2 (ag h5 (ag h5 (aj (aj h5 t3) (al (aj h5 t2)))))))))))))) (aj h6 s2)))))) t2)
theorem vnl_3(q:AC)(h1:(decide (iN q.i<iN (List.map (iv) q.r).length)=true))(h2:(0<=iN q.i))(h3:((List.map (iv) q.r)[(iN q.i).toNat]?=some (iv q.base)))(h4:(decide (q.base<=q.z)=false))(h5:(decide (q.y<=q.base)=false))(h6:((q.base==q.x)=false)){post:Exit->St->Prop}{R:St->Prop}(hR:∀st,Ren 0 st (St.mk 34 [(0,AV.lst (List.map (iv) q.r)),(1,iv q.x),(2,iv q.y),(7,iv q.base),(10,AV.lst (List.map (iv) q.r)),(11,iv (iN (List.map (iv) q.r).length)),(12,iv (i64.wrap (iN q.i+1)))] [])->R st):GoP Try.prog (hU [27,38,48,56] (Hf q) (AK q)) 0 (zC (zB Try.f130) 0) (Fw q) (andThen R post):=
 zN (σ:=[]) (fz:=[]) (vars:=[0,1,2,7,10,11,12]) (by kernel_rfl) (aj (aj (al t3) (aj h1 (aj (aj (k2 (aj h2 h3)) (u2 s2)) (aj (u2 (u2 (aj t3 (u2 (ag h4 (ag h4 (aj (aj h4 t3) (ag h4 (u2 (ag h5 (ag h5 (aj (aj h5 t3) (al (aj h5 t2)))))))))))))) (aj h6 (aj (u2 s2) (al (u2 s2)))))))) t8) hR
theorem vnl_4(q:AC)(h1:(decide (iN q.i<iN (List.map (iv) q.r).length)=false)):GoO Try.prog (hU [26] (Hf q) (AK q)) 0 (zC (zB Try.f130) 0) (zK (zB Try.f130) 0) (Fw q) (Fin Try.prog Try.f130 0 [] (AV.bool (decide (iN (List.map (iv) q.r).length<=4)))):=
 zF (σ:=[]) (fz:=[]) (by kernel_rfl) (aj (aj (aj (al t3) (al h1)) (al (u2 (u2 (u2 s2))))) t2)
theorem mvi_0(q:AC)(h1:(CT Try.prog 127 [] [iv (iN (List.map bA q.n.bs).length),iv 1,iv 24] [] (AV.bool (Ao (iN (List.map bA q.n.bs).length) 1 24))))(h2:((!Ao (iN (List.map bA q.n.bs).length) 1 24)=true)):GoP Try.prog (hU [37] (BA q) (AK q)) 0 (zB Try.f93) (Hs q) (Fin Try.prog Try.f93 0 [] (AV.bool false)):=
 zF (σ:=[]) (fz:=[]) (by kernel_rfl) (aj (ag t2 (aj (u2 (u2 (u2 (aj (ak (k3 (al h1))) (u2 (u2 (aj h2 (aj h2 (aj h2 (aj h2 (aj h2 (aj h2 (aj h2 (ag h2 (u2 (ak (k3 (aj t3 (u2 (ak (k3 (aj t3 (u2 (ak (k3 (al t3)))))))))))))))))))))))))) (ak s2))) t2)
theorem mvi_1(q:AC)(h1:(CT Try.prog 127 [] [iv (iN (List.map bA q.n.bs).length),iv 1,iv 24] [] (AV.bool (Ao (iN (List.map bA q.n.bs).length) 1 24))))(h2:((!Ao (iN (List.map bA q.n.bs).length) 1 24)=false))(h3:((iN (gL q.n.nx).length != iN (List.map bA q.n.bs).length)=true)):GoP Try.prog (hU [36,55] (BA q) (AK q)) 0 (zB Try.f93) (Hs q) (Fin Try.prog Try.f93 0 [] (AV.bool false)):=
 zF (σ:=[]) (fz:=[]) (by kernel_rfl) (aj (ag t2 (aj (u2 (u2 (u2 (aj (ak (k3 (al h1))) (u2 (u2 (ag h2 (ag h2 (ag h2 (ag h2 (ag h2 (ag h2 (aj (aj h2 t3) (ag h2 (u2 (aj h3 (aj h3 (aj h3 (aj h3 (ag h3 (u2 (ak (k3 (aj t3 (u2 (ak (k3 (al t3)))))))))))))))))))))))))))) (ak s2))) t2)
theorem mvi_2(q:AC)(h1:(CT Try.prog 127 [] [iv (iN (List.map bA q.n.bs).length),iv 1,iv 24] [] (AV.bool (Ao (iN (List.map bA q.n.bs).length) 1 24))))(h2:((!Ao (iN (List.map bA q.n.bs).length) 1 24)=false))(h3:((iN (gL q.n.nx).length != iN (List.map bA q.n.bs).length)=false))(h4:(decide (6<iN (List.map sA q.n.ss).length)=true)):GoP Try.prog (hU [36,54,67] (BA q) (AK q)) 0 (zB Try.f93) (Hs q) (Fin Try.prog Try.f93 0 [] (AV.bool false)):=
 zF (σ:=[]) (fz:=[]) (by kernel_rfl) (aj (ag t2 (aj (u2 (u2 (u2 (aj (ak (k3 (al h1))) (u2 (u2 (ag h2 (ag h2 (ag h2 (ag h2 (ag h2 (ag h2 (aj (aj h2 t3) (ag h2 (u2 (ag h3 (ag h3 (ag h3 (ag h3 (ag h3 (u2 (aj h4 (aj h4 (aj h4 (aj h4 (ag h4 (u2 (ak (k3 (al t3)))))))))))))))))))))))))))))) (ak s2))) t2)
theorem mvi_3(q:AC)(h1:(CT Try.prog 127 [] [iv (iN (List.map bA q.n.bs).length),iv 1,iv 24] [] (AV.bool (Ao (iN (List.map bA q.n.bs).length) 1 24))))(h2:((!Ao (iN (List.map bA q.n.bs).length) 1 24)=false))(h3:((iN (gL q.n.nx).length != iN (List.map bA q.n.bs).length)=false))(h4:(decide (6<iN (List.map sA q.n.ss).length)=false))(h5:(decide (8<iN (List.map (iv) q.n.rs).length)=true)):GoP Try.prog (hU [36,54,66,79] (BA q) (AK q)) 0 (zB Try.f93) (Hs q) (Fin Try.prog Try.f93 0 [] (AV.bool false)):=
 zF (σ:=[]) (fz:=[]) (by kernel_rfl) (aj (ag t2 (aj (u2 (u2 (u2 (aj (ak (k3 (al h1))) (u2 (u2 (ag h2 (ag h2 (ag h2 (ag h2 (ag h2 (ag h2 (aj (aj h2 t3) (ag h2 (u2 (ag h3 (ag h3 (ag h3 (ag h3 (ag h3 (u2 (ag h4 (ag h4 (ag h4 (ag h4 (ag h4 (u2 (aj h5 (aj h5 (aj h5 (aj h5 (al (aj h5 t2))))))))))))))))))))))))))))))))) (ak s2))) t2)
theorem mvi_4(q:AC)(h1:(CT Try.prog 127 [] [iv (iN (List.map bA q.n.bs).length),iv 1,iv 24] [] (AV.bool (Ao (iN (List.map bA q.n.bs).length) 1 24))))(h2:((!Ao (iN (List.map bA q.n.bs).length) 1 24)=false))(h3:((iN (gL q.n.nx).length != iN (List.map bA q.n.bs).length)=false))(h4:(decide (6<iN (List.map sA q.n.ss).length)=false))(h5:(decide (8<iN (List.map (iv) q.n.rs).length)=false))(h6:(CT Try.prog 128 [] [AV.agg [iv q.n.q,iv q.n.a,iv q.n.d,iv q.n.p]] [] (AV.bool (A9 q.n))))(h7:((!A9 q.n)=true)):GoP Try.prog (hU [36,54,66,78,89] (BA q) (AK q)) 0 (zB Try.f93) (Hs q) (Fin Try.prog Try.f93 0 [] (AV.bool false)):=
 zF (σ:=[]) (fz:=[]) (by kernel_rfl) (aj (ag t2 (aj (u2 (u2 (u2 (aj (ak (k3 (al h1))) (u2 (u2 (ag h2 (ag h2 (ag h2 (ag h2 (ag h2 (ag h2 (aj (aj h2 t3) (ag h2 (u2 (ag h3 (ag h3 (ag h3 (ag h3 (ag h3 (u2 (ag h4 (ag h4 (ag h4 (ag h4 (ag h4 (u2 (ag h5 (ag h5 (aj (aj h5 (ak (aj t5 (al h6)))) (ag h5 (al (aj h5 t2))))))))))))))))))))))))))))))))) (aj h7 s2))) t2)
theorem mvi_5(q:AC)(h1:(CT Try.prog 127 [] [iv (iN (List.map bA q.n.bs).length),iv 1,iv 24] [] (AV.bool (Ao (iN (List.map bA q.n.bs).length) 1 24))))(h2:((!Ao (iN (List.map bA q.n.bs).length) 1 24)=false))(h3:((iN (gL q.n.nx).length != iN (List.map bA q.n.bs).length)=false))(h4:(decide (6<iN (List.map sA q.n.ss).length)=false))(h5:(decide (8<iN (List.map (iv) q.n.rs).length)=false))(h6:(CT Try.prog 128 [] [AV.agg [iv q.n.q,iv q.n.a,iv q.n.d,iv q.n.p]] [] (AV.bool (A9 q.n))))(h7:((!A9 q.n)=false)){post:Exit->St->Prop}(ht:T Try.prog 0 (.loop (zC (zB Try.f93) 0)) (St.mk 185 [(1,AV.ptr 0 0 0),(3,AV.map 1),(47,AV.lst (List.map bA q.n.bs)),(48,iv (iN (List.map bA q.n.bs).length)),(49,iv 0)] [some (Blk.mk [Ag q.n] [AV.lst (List.map bA q.n.bs),AV.lst (gL q.n.nx),AV.lst (List.map sA q.n.ss),AV.lst (List.map (iv) q.n.rs),iv q.n.q,iv q.n.a,iv q.n.d,iv q.n.p].length true true none),some (Blk.mk [] 0 true true (some ([],0)))]) (TK Try.prog 0 post (zK (zB Try.f93) 0))):GoP Try.prog (hU [36,54,66,78,88] (BA q) (AK q)) 0 (zB Try.f93) (Hs q) post:=
 zR (σ:=[0,1]) (fz:=[]) (vars:=[1,3,47,48,49]) (by kernel_rfl) (aj (ag t2 (aj (u2 (u2 (u2 (aj (ak (k3 (al h1))) (u2 (u2 (ag h2 (ag h2 (ag h2 (ag h2 (ag h2 (ag h2 (aj (aj h2 t3) (ag h2 (u2 (ag h3 (ag h3 (ag h3 (ag h3 (ag h3 (u2 (ag h4 (ag h4 (ag h4 (ag h4 (ag h4 (u2 (ag h5 (ag h5 (aj (aj h5 (ak (aj t5 (al h6)))) (ag h5 (al (aj h5 t2))))))))))))))))))))))))))))))))) (aj h7 (aj (ak s2) (al (u2 (u2 (u2 t2)))))))) t8) ht
theorem mvbx_0(q:AC)(h1:(decide (iN q.i<iN (List.map bA q.n.bs).length)=false)){post:Exit->St->Prop}(ht:T Try.prog 0 (.loop (zC (zB Try.f93) 1)) (St.mk 185 [(1,AV.ptr 0 0 0),(3,AV.map 1),(6,iv (iN (List.map bA q.n.bs).length)),(7,AV.map 2),(94,AV.lst (List.map sA q.n.ss)),(95,iv (iN (List.map sA q.n.ss).length)),(96,iv 0)] [some (Blk.mk [Ag q.n] 8 true true none),some (Blk.mk [] 0 true true (some (q.l,q.c))),some (Blk.mk [] 0 true true (some ([],0)))]) (TK Try.prog 0 post (zK (zB Try.f93) 1))):GoO Try.prog (hU [100] (BA q) (AK q)) 0 (zC (zB Try.f93) 0) (zK (zB Try.f93) 0) (D4 q) post:=
 zR (σ:=[0,1,2]) (fz:=[]) (vars:=[1,3,6,7,94,95,96]) (by kernel_rfl) (aj (aj (aj (al t3) (al h1)) (aj (u2 (u2 (u2 (ak (u2 s2))))) (al (u2 (u2 (u2 t2)))))) (k2 t9)) ht
theorem mvb_0 (q : AC) (h1 : (decide (iN q.i < iN (List.map bA q.n.bs).length) = true)) (h2 : (0 <= iN q.i)) (h3 : ((List.map bA q.n.bs)[(iN q.i).toNat]? = some (AV.agg [AV.str q.b.nm, iv q.b.x, iv q.b.y]))) (h4 : (∀ (x : MapEntry), x ∈ q.l -> AZ (TypeInfo.mk TypeDesc.string "string" 1 16 true 8 8 (some (Value.string (ByteArray.mk #[]))) true #[]).desc x.key = true /\ BT (MK.i i64) x.val)) (h5 : (CT Try.prog 129 [] [AV.str q.b.nm] [] (AV.bool (nmB q.b.nm)))) (h6 : ((!nmB q.b.nm) = true)) : GoO Try.prog (hU [101, 127] (BA q) (AK q)) 0 (zC (zB Try.f93) 0) (zK (zB Try.f93) 0) (D4 q) (Fin Try.prog Try.f93 0 [] (AV.bool false)) :=
 zF (σ:=[]) (fz:=[]) (by kernel_rfl) (aj (al (aj (al t3) (aj h1 (aj (u2 (aj (k2 (aj h2 h3)) (u2 (ak (u2 (al (k2 (show(Nat.le (nat_lit 1) (nat_lit 1)) by first | exact nL rfl | decide)))))))) (aj (u2 (u2 (u2 (aj (k2 h4) (u2 (al (k3 h4))))))) (aj (u2 (u2 (aj (k2 (al h5)) (u2 (u2 (aj h6 (aj h6 (aj h6 (aj h6 (ag h6 (u2 (ak (k3 (aj t3 (u2 (ak (k5 (k5 (al t3))))))))))))))))))) (ak s2))))))) t2)
theorem mvb_1 (q : AC) (h1 : (decide (iN q.i < iN (List.map bA q.n.bs).length) = true)) (h2 : (0 <= iN q.i)) (h3 : ((List.map bA q.n.bs)[(iN q.i).toNat]? = some (AV.agg [AV.str q.b.nm, iv q.b.x, iv q.b.y]))) (h4 : (∀ (x : MapEntry), x ∈ q.l -> AZ (TypeInfo.mk TypeDesc.string "string" 1 16 true 8 8 (some (Value.string (ByteArray.mk #[]))) true #[]).desc x.key = true /\ BT (MK.i i64) x.val)) (h5 : (CT Try.prog 129 [] [AV.str q.b.nm] [] (AV.bool (nmB q.b.nm)))) (h6 : ((!nmB q.b.nm) = false)) (h7 : (CT Try.prog 127 [] [iv q.b.x, iv (-9999), iv 9999] [] (AV.bool (Ao q.b.x (-9999) 9999)))) (h8 : ((!Ao q.b.x (-9999) 9999) = true)) : GoO Try.prog (hU [101, 126, 139] (BA q) (AK q)) 0 (zC (zB Try.f93) 0) (zK (zB Try.f93) 0) (D4 q) (Fin Try.prog Try.f93 0 [] (AV.bool false)) :=
 zF (σ:=[]) (fz:=[]) (by kernel_rfl) (aj (al (aj (al t3) (aj h1 (aj (u2 (aj (k2 (aj h2 h3)) (u2 (ak (u2 (al (k2 (show(Nat.le (nat_lit 1) (nat_lit 1)) by first | exact nL rfl | decide)))))))) (aj (u2 (u2 (u2 (aj (k2 h4) (u2 (al (k3 h4))))))) (aj (u2 (u2 (aj (k2 (al h5)) (u2 (u2 (ag h6 (ag h6 (aj (aj h6 (ak (k3 (al h7)))) (ag h6 (ag h6 (u2 (aj h8 (aj h8 (aj h8 (aj h8 (ag h8 (u2 (ak (k5 (k5 (al t3))))))))))))))))))))) (ak s2))))))) t2)
theorem mvb_2 (q : AC) (h1 : (decide (iN q.i < iN (List.map bA q.n.bs).length) = true)) (h2 : (0 <= iN q.i)) (h3 : ((List.map bA q.n.bs)[(iN q.i).toNat]? = some (AV.agg [AV.str q.b.nm, iv q.b.x, iv q.b.y]))) (h4 : (∀ (x : MapEntry), x ∈ q.l -> AZ (TypeInfo.mk TypeDesc.string "string" 1 16 true 8 8 (some (Value.string (ByteArray.mk #[]))) true #[]).desc x.key = true /\ BT (MK.i i64) x.val)) (h5 : (CT Try.prog 129 [] [AV.str q.b.nm] [] (AV.bool (nmB q.b.nm)))) (h6 : ((!nmB q.b.nm) = false)) (h7 : (CT Try.prog 127 [] [iv q.b.x, iv (-9999), iv 9999] [] (AV.bool (Ao q.b.x (-9999) 9999)))) (h8 : ((!Ao q.b.x (-9999) 9999) = false)) (h9 : (CT Try.prog 127 [] [iv q.b.y, iv (-9999), iv 9999] [] (AV.bool (Ao q.b.y (-9999) 9999)))) (h10 : ((!Ao q.b.y (-9999) 9999) = true)) : GoO Try.prog (hU [101, 126, 138, 151] (BA q) (AK q)) 0 (zC (zB Try.f93) 0) (zK (zB Try.f93) 0) (D4 q) (Fin Try.prog Try.f93 0 [] (AV.bool false)) :=
 zF (σ:=[]) (fz:=[]) (by kernel_rfl) (aj (al (aj (al t3) (aj h1 (aj (u2 (aj (k2 (aj h2 h3)) (u2 (ak (u2 (al (k2 (show(Nat.le (nat_lit 1) (nat_lit 1)) by first | exact nL rfl | decide)))))))) (aj (u2 (u2 (u2 (aj (k2 h4) (u2 (al (k3 h4))))))) (aj (u2 (u2 (aj (k2 (al h5)) (u2 (u2 (ag h6 (ag h6 (aj (aj h6 (ak (k3 (al h7)))) (ag h6 (ag h6 (u2 (ag h8 (ag h8 (aj (aj h8 (ak (k3 (al h9)))) (ag h8 (ag h8 (u2 (aj h10 (aj h10 (aj h10 (aj h10 (aj h10 (aj h10 (aj h10 (aj h10 (aj h10 (aj h10 (aj h10 (al (aj h10 t2)))))))))))))))))))))))))))))) (ak s2))))))) t2)
theorem mvb_3 (q : AC) (h1 : (decide (iN q.i < iN (List.map bA q.n.bs).length) = true)) (h2 : (0 <= iN q.i)) (h3 : ((List.map bA q.n.bs)[(iN q.i).toNat]? = some (AV.agg [AV.str q.b.nm, iv q.b.x, iv q.b.y]))) (h4 : (∀ (x : MapEntry), x ∈ q.l -> AZ (TypeInfo.mk TypeDesc.string "string" 1 16 true 8 8 (some (Value.string (ByteArray.mk #[]))) true #[]).desc x.key = true /\ BT (MK.i i64) x.val)) (h5 : (CT Try.prog 129 [] [AV.str q.b.nm] [] (AV.bool (nmB q.b.nm)))) (h6 : ((!nmB q.b.nm) = false)) (h7 : (CT Try.prog 127 [] [iv q.b.x, iv (-9999), iv 9999] [] (AV.bool (Ao q.b.x (-9999) 9999)))) (h8 : ((!Ao q.b.x (-9999) 9999) = false)) (h9 : (CT Try.prog 127 [] [iv q.b.y, iv (-9999), iv 9999] [] (AV.bool (Ao q.b.y (-9999) 9999)))) (h10 : ((!Ao q.b.y (-9999) 9999) = false)) (h11 : ((gL q.n.nx)[(iN q.i).toNat]? = some (AV.lst (List.map (iv) q.r)))) (h12 : (CT Try.prog 130 [] [AV.lst (List.map (iv) q.r), iv (iN q.i), iv (iN (List.map bA q.n.bs).length)] [] (AV.bool (nxB q.r (iN q.i) (iN (List.map bA q.n.bs).length))))) (h13 : ((!nxB q.r (iN q.i) (iN (List.map bA q.n.bs).length)) = true)) : GoO Try.prog (hU [101, 126, 138, 150, 175] (BA q) (AK q)) 0 (zC (zB Try.f93) 0) (zK (zB Try.f93) 0) (D4 q) (Fin Try.prog Try.f93 0 [] (AV.bool false)) :=
 zF (σ:=[]) (fz:=[]) (by kernel_rfl) (aj (al (aj (al t3) (aj h1 (aj (u2 (aj (k2 (aj h2 h3)) (u2 (ak (u2 (al (k2 (show(Nat.le (nat_lit 1) (nat_lit 1)) by first | exact nL rfl | decide)))))))) (aj (u2 (u2 (u2 (aj (k2 h4) (u2 (al (k3 h4))))))) (aj (u2 (u2 (aj (k2 (al h5)) (u2 (u2 (ag h6 (ag h6 (aj (aj h6 (ak (k3 (al h7)))) (ag h6 (ag h6 (u2 (ag h8 (ag h8 (aj (aj h8 (ak (k3 (al h9)))) (ag h8 (ag h8 (u2 (ag h10 (ag h10 (ag h10 (aj (aj h10 (k2 (aj h2 h11))) (ag h10 (ag h10 (ag h10 (ag h10 (ag h10 (aj (aj h10 (ak (k5 (al h12)))) (ag h10 (al (aj h10 t2)))))))))))))))))))))))))))))) (aj h13 s2))))))) t2)
theorem mvb_4 (q : AC) (h1 : (decide (iN q.i < iN (List.map bA q.n.bs).length) = true)) (h2 : (0 <= iN q.i)) (h3 : ((List.map bA q.n.bs)[(iN q.i).toNat]? = some (AV.agg [AV.str q.b.nm, iv q.b.x, iv q.b.y]))) (h4 : (∀ (x : MapEntry), x ∈ q.l -> AZ (TypeInfo.mk TypeDesc.string "string" 1 16 true 8 8 (some (Value.string (ByteArray.mk #[]))) true #[]).desc x.key = true /\ BT (MK.i i64) x.val)) (h5 : (CT Try.prog 129 [] [AV.str q.b.nm] [] (AV.bool (nmB q.b.nm)))) (h6 : ((!nmB q.b.nm) = false)) (h7 : (CT Try.prog 127 [] [iv q.b.x, iv (-9999), iv 9999] [] (AV.bool (Ao q.b.x (-9999) 9999)))) (h8 : ((!Ao q.b.x (-9999) 9999) = false)) (h9 : (CT Try.prog 127 [] [iv q.b.y, iv (-9999), iv 9999] [] (AV.bool (Ao q.b.y (-9999) 9999)))) (h10 : ((!Ao q.b.y (-9999) 9999) = false)) (h11 : ((gL q.n.nx)[(iN q.i).toNat]? = some (AV.lst (List.map (iv) q.r)))) (h12 : (CT Try.prog 130 [] [AV.lst (List.map (iv) q.r), iv (iN q.i), iv (iN (List.map bA q.n.bs).length)] [] (AV.bool (nxB q.r (iN q.i) (iN (List.map bA q.n.bs).length))))) (h13 : ((!nxB q.r (iN q.i) (iN (List.map bA q.n.bs).length)) = false)) {post : Exit -> St -> Prop} {R : St -> Prop} (hR : ∀ st, Ren 0 st (St.mk 185 [(1, AV.ptr 0 0 0), (3, AV.map 1), (47, AV.lst (List.map bA q.n.bs)), (48, iv (iN (List.map bA q.n.bs).length)), (49, iv (i64.wrap (iN q.i + 1)))] [some (Blk.mk [Ag q.n] 8 true true none), some (Blk.mk [] 0 true true (some (BO TypeDesc.string (Value.string q.b.nm) (Value.int i64 (i64.wrap (Ek TypeDesc.string (Value.string q.b.nm) q.l + 1))) q.l q.c, BM TypeDesc.string (Value.string q.b.nm) q.l q.c)))]) -> R st) : GoP Try.prog (hU [101, 126, 138, 150, 174] (BA q) (AK q)) 0 (zC (zB Try.f93) 0) (D4 q) (andThen R post) :=
 zN (σ:=[0,1]) (fz:=[]) (vars:=[1,3,47,48,49]) (by kernel_rfl) (aj (aj (al t3) (aj h1 (aj (u2 (aj (k2 (aj h2 h3)) (u2 (ak (u2 (al (k2 (show(Nat.le (nat_lit 1) (nat_lit 1)) by first | exact nL rfl | decide)))))))) (aj (u2 (u2 (u2 (aj (k2 h4) (u2 (al (k3 h4))))))) (aj (u2 (u2 (aj (k2 (al h5)) (u2 (u2 (ag h6 (ag h6 (aj (aj h6 (ak (k3 (al h7)))) (ag h6 (ag h6 (u2 (ag h8 (ag h8 (aj (aj h8 (ak (k3 (al h9)))) (ag h8 (ag h8 (u2 (ag h10 (ag h10 (ag h10 (aj (aj h10 (k2 (aj h2 h11))) (ag h10 (ag h10 (ag h10 (ag h10 (ag h10 (aj (aj h10 (ak (k5 (al h12)))) (ag h10 (al (aj h10 t2)))))))))))))))))))))))))))))) (aj h13 (al (u2 s2)))))))) t8) hR
theorem mvsx_0(q:AC)(h1:(decide (iN q.i<iN (List.map sA q.n.ss).length)=false))(h2:(decide (0<iN q.l2.length)=true)){post:Exit->St->Prop}(ht:T Try.prog 0 (.loop (zC (zB Try.f93) 2)) (St.mk 185 [(7,AV.map 0),(10,AV.bool (iN q.l.length==i64.wrap (iN (List.map bA q.n.bs).length+iN (List.map sA q.n.ss).length))),(169,AV.lst (List.map (iv) q.n.rs)),(170,iv (iN (List.map (iv) q.n.rs).length)),(171,iv 0)] [some (Blk.mk [] 0 true true (some (q.l2,q.c2)))]) (TK Try.prog 0 post (zK (zB Try.f93) 2))):GoO Try.prog (hU [194,313] (BA q) (AK q)) 0 (zC (zB Try.f93) 1) (zK (zB Try.f93) 1) (CO q) post:=
 zR (σ:=[2]) (fz:=[]) (vars:=[7,10,169,170,171]) (by kernel_rfl) (aj (aj (aj (al t3) (al h1)) (aj (u2 (u2 (u2 (u2 (ag h2 (ag h2 (ag h2 (ag h2 (ag h2 (ag h2 (ag h2 (ag h2 (aj (aj h2 t3) (aj (aj h2 t3) (ag h2 s2))))))))))))))) (al (u2 (u2 (u2 t2)))))) t7) ht
theorem mvsx_1(q:AC)(h1:(decide (iN q.i<iN (List.map sA q.n.ss).length)=false))(h2:(decide (0<iN q.l2.length)=false)){post:Exit->St->Prop}(ht:T Try.prog 0 (.loop (zC (zB Try.f93) 2)) (St.mk 185 [(7,AV.map 0),(10,AV.bool false),(169,AV.lst (List.map (iv) q.n.rs)),(170,iv (iN (List.map (iv) q.n.rs).length)),(171,iv 0)] [some (Blk.mk [] 0 true true (some (q.l2,q.c2)))]) (TK Try.prog 0 post (zK (zB Try.f93) 2))):GoO Try.prog (hU [194,312] (BA q) (AK q)) 0 (zC (zB Try.f93) 1) (zK (zB Try.f93) 1) (CO q) post:=
 zR (σ:=[2]) (fz:=[]) (vars:=[7,10,169,170,171]) (by kernel_rfl) (aj (aj (aj (al t3) (al h1)) (aj (u2 (u2 (u2 (u2 (aj h2 (aj h2 (aj h2 (aj h2 (aj h2 (aj h2 (aj h2 (aj h2 (aj h2 (aj h2 (ag h2 s2))))))))))))))) (al (u2 (u2 (u2 t2)))))) t7) ht
theorem mvs_0 (q : AC) (h1 : (decide (iN q.i < iN (List.map sA q.n.ss).length) = true)) (h2 : (0 <= iN q.i)) (h3 : ((List.map sA q.n.ss)[(iN q.i).toNat]? = some (sA q.s))) (h4 : (∀ (x : MapEntry), x ∈ q.l -> AZ (TypeInfo.mk TypeDesc.string "string" 1 16 true 8 8 (some (Value.string (ByteArray.mk #[]))) true #[]).desc x.key = true /\ BT (MK.i i64) x.val)) (h5 : (CT Try.prog 129 [] [AV.str q.s.nm] [] (AV.bool (nmB q.s.nm)))) (h6 : ((!nmB q.s.nm) = true)) : GoO Try.prog (hU [195, 219] (BA q) (AK q)) 0 (zC (zB Try.f93) 1) (zK (zB Try.f93) 1) (CO q) (Fin Try.prog Try.f93 0 [] (AV.bool false)) :=
 zF (σ:=[]) (fz:=[]) (by kernel_rfl) (aj (al (aj (al t3) (aj h1 (aj (aj (k2 (aj h2 h3)) (u2 (ak (al (k2 (show(Nat.le (nat_lit 1) (nat_lit 1)) by first | exact nL rfl | decide)))))) (aj (u2 (u2 (u2 (aj (k2 h4) (u2 (al (k3 h4))))))) (aj (u2 (u2 (aj (k2 (al h5)) (u2 (u2 (aj h6 (aj h6 (aj h6 (aj h6 (aj h6 (aj h6 (aj h6 (aj h6 (ag h6 (u2 (k3 (k5 (aj t3 (u2 (ak (k3 (aj t3 (u2 (ak (k3 (al t3)))))))))))))))))))))))))) (ak s2))))))) t2)
theorem mvs_1 (q : AC) (h1 : (decide (iN q.i < iN (List.map sA q.n.ss).length) = true)) (h2 : (0 <= iN q.i)) (h3 : ((List.map sA q.n.ss)[(iN q.i).toNat]? = some (sA q.s))) (h4 : (∀ (x : MapEntry), x ∈ q.l -> AZ (TypeInfo.mk TypeDesc.string "string" 1 16 true 8 8 (some (Value.string (ByteArray.mk #[]))) true #[]).desc x.key = true /\ BT (MK.i i64) x.val)) (h5 : (CT Try.prog 129 [] [AV.str q.s.nm] [] (AV.bool (nmB q.s.nm)))) (h6 : ((!nmB q.s.nm) = false)) (h7 : (CT Try.prog 127 [] [iv q.s.i, iv 0, iv (i64.wrap (iN (List.map bA q.n.bs).length - 1))] [] (AV.bool (Ao q.s.i 0 (i64.wrap (iN (List.map bA q.n.bs).length - 1)))))) (h8 : ((!Ao q.s.i 0 (i64.wrap (iN (List.map bA q.n.bs).length - 1))) = true)) : GoO Try.prog (hU [195, 218, 239] (BA q) (AK q)) 0 (zC (zB Try.f93) 1) (zK (zB Try.f93) 1) (CO q) (Fin Try.prog Try.f93 0 [] (AV.bool false)) :=
 zF (σ:=[]) (fz:=[]) (by kernel_rfl) (aj (al (aj (al t3) (aj h1 (aj (aj (k2 (aj h2 h3)) (u2 (ak (al (k2 (show(Nat.le (nat_lit 1) (nat_lit 1)) by first | exact nL rfl | decide)))))) (aj (u2 (u2 (u2 (aj (k2 h4) (u2 (al (k3 h4))))))) (aj (u2 (u2 (aj (k2 (al h5)) (u2 (u2 (ag h6 (ag h6 (ag h6 (ag h6 (ag h6 (ag h6 (aj (aj h6 (k5 (al h7))) (ag h6 (ag h6 (u2 (aj h8 (aj h8 (aj h8 (aj h8 (aj h8 (aj h8 (aj h8 (aj h8 (ag h8 (u2 (ak (k3 (aj t3 (u2 (ak (k3 (al t3)))))))))))))))))))))))))))))))) (ak s2))))))) t2)
theorem mvs_2 (q : AC) (h1 : (decide (iN q.i < iN (List.map sA q.n.ss).length) = true)) (h2 : (0 <= iN q.i)) (h3 : ((List.map sA q.n.ss)[(iN q.i).toNat]? = some (sA q.s))) (h4 : (∀ (x : MapEntry), x ∈ q.l -> AZ (TypeInfo.mk TypeDesc.string "string" 1 16 true 8 8 (some (Value.string (ByteArray.mk #[]))) true #[]).desc x.key = true /\ BT (MK.i i64) x.val)) (h5 : (CT Try.prog 129 [] [AV.str q.s.nm] [] (AV.bool (nmB q.s.nm)))) (h6 : ((!nmB q.s.nm) = false)) (h7 : (CT Try.prog 127 [] [iv q.s.i, iv 0, iv (i64.wrap (iN (List.map bA q.n.bs).length - 1))] [] (AV.bool (Ao q.s.i 0 (i64.wrap (iN (List.map bA q.n.bs).length - 1)))))) (h8 : ((!Ao q.s.i 0 (i64.wrap (iN (List.map bA q.n.bs).length - 1))) = false)) (h9 : (CT Try.prog 127 [] [iv q.s.o, iv 0, iv (i64.wrap (iN (List.map bA q.n.bs).length - 1))] [] (AV.bool (Ao q.s.o 0 (i64.wrap (iN (List.map bA q.n.bs).length - 1)))))) (h10 : ((!Ao q.s.o 0 (i64.wrap (iN (List.map bA q.n.bs).length - 1))) = true)) : GoO Try.prog (hU [195, 218, 238, 259] (BA q) (AK q)) 0 (zC (zB Try.f93) 1) (zK (zB Try.f93) 1) (CO q) (Fin Try.prog Try.f93 0 [] (AV.bool false)) :=
 zF (σ:=[]) (fz:=[]) (by kernel_rfl) (aj (al (aj (al t3) (aj h1 (aj (aj (k2 (aj h2 h3)) (u2 (ak (al (k2 (show(Nat.le (nat_lit 1) (nat_lit 1)) by first | exact nL rfl | decide)))))) (aj (u2 (u2 (u2 (aj (k2 h4) (u2 (al (k3 h4))))))) (aj (u2 (u2 (aj (k2 (al h5)) (u2 (u2 (ag h6 (ag h6 (ag h6 (ag h6 (ag h6 (ag h6 (aj (aj h6 (k5 (al h7))) (ag h6 (ag h6 (u2 (ag h8 (ag h8 (ag h8 (ag h8 (ag h8 (ag h8 (aj (aj h8 (k5 (al h9))) (ag h8 (ag h8 (u2 (aj h10 (aj h10 (aj h10 (aj h10 (ag h10 (u2 (ak (k3 (al t3)))))))))))))))))))))))))))))))))) (ak s2))))))) t2)
theorem mvs_3 (q : AC) (h1 : (decide (iN q.i < iN (List.map sA q.n.ss).length) = true)) (h2 : (0 <= iN q.i)) (h3 : ((List.map sA q.n.ss)[(iN q.i).toNat]? = some (sA q.s))) (h4 : (∀ (x : MapEntry), x ∈ q.l -> AZ (TypeInfo.mk TypeDesc.string "string" 1 16 true 8 8 (some (Value.string (ByteArray.mk #[]))) true #[]).desc x.key = true /\ BT (MK.i i64) x.val)) (h5 : (CT Try.prog 129 [] [AV.str q.s.nm] [] (AV.bool (nmB q.s.nm)))) (h6 : ((!nmB q.s.nm) = false)) (h7 : (CT Try.prog 127 [] [iv q.s.i, iv 0, iv (i64.wrap (iN (List.map bA q.n.bs).length - 1))] [] (AV.bool (Ao q.s.i 0 (i64.wrap (iN (List.map bA q.n.bs).length - 1)))))) (h8 : ((!Ao q.s.i 0 (i64.wrap (iN (List.map bA q.n.bs).length - 1))) = false)) (h9 : (CT Try.prog 127 [] [iv q.s.o, iv 0, iv (i64.wrap (iN (List.map bA q.n.bs).length - 1))] [] (AV.bool (Ao q.s.o 0 (i64.wrap (iN (List.map bA q.n.bs).length - 1)))))) (h10 : ((!Ao q.s.o 0 (i64.wrap (iN (List.map bA q.n.bs).length - 1))) = false)) (h11 : (CT Try.prog 127 [] [iv q.s.k, iv 1, iv 4] [] (AV.bool (Ao q.s.k 1 4)))) (h12 : ((!Ao q.s.k 1 4) = true)) : GoO Try.prog (hU [195, 218, 238, 258, 271] (BA q) (AK q)) 0 (zC (zB Try.f93) 1) (zK (zB Try.f93) 1) (CO q) (Fin Try.prog Try.f93 0 [] (AV.bool false)) :=
 zF (σ:=[]) (fz:=[]) (by kernel_rfl) (aj (al (aj (al t3) (aj h1 (aj (aj (k2 (aj h2 h3)) (u2 (ak (al (k2 (show(Nat.le (nat_lit 1) (nat_lit 1)) by first | exact nL rfl | decide)))))) (aj (u2 (u2 (u2 (aj (k2 h4) (u2 (al (k3 h4))))))) (aj (u2 (u2 (aj (k2 (al h5)) (u2 (u2 (ag h6 (ag h6 (ag h6 (ag h6 (ag h6 (ag h6 (aj (aj h6 (k5 (al h7))) (ag h6 (ag h6 (u2 (ag h8 (ag h8 (ag h8 (ag h8 (ag h8 (ag h8 (aj (aj h8 (k5 (al h9))) (ag h8 (ag h8 (u2 (ag h10 (ag h10 (aj (aj h10 (ak (k3 (al h11)))) (ag h10 (ag h10 (u2 (aj h12 (aj h12 (aj h12 (aj h12 (al (aj h12 t2))))))))))))))))))))))))))))))))))))) (ak s2))))))) t2)
theorem mvs_4 (q : AC) (h1 : (decide (iN q.i < iN (List.map sA q.n.ss).length) = true)) (h2 : (0 <= iN q.i)) (h3 : ((List.map sA q.n.ss)[(iN q.i).toNat]? = some (sA q.s))) (h4 : (∀ (x : MapEntry), x ∈ q.l -> AZ (TypeInfo.mk TypeDesc.string "string" 1 16 true 8 8 (some (Value.string (ByteArray.mk #[]))) true #[]).desc x.key = true /\ BT (MK.i i64) x.val)) (h5 : (CT Try.prog 129 [] [AV.str q.s.nm] [] (AV.bool (nmB q.s.nm)))) (h6 : ((!nmB q.s.nm) = false)) (h7 : (CT Try.prog 127 [] [iv q.s.i, iv 0, iv (i64.wrap (iN (List.map bA q.n.bs).length - 1))] [] (AV.bool (Ao q.s.i 0 (i64.wrap (iN (List.map bA q.n.bs).length - 1)))))) (h8 : ((!Ao q.s.i 0 (i64.wrap (iN (List.map bA q.n.bs).length - 1))) = false)) (h9 : (CT Try.prog 127 [] [iv q.s.o, iv 0, iv (i64.wrap (iN (List.map bA q.n.bs).length - 1))] [] (AV.bool (Ao q.s.o 0 (i64.wrap (iN (List.map bA q.n.bs).length - 1)))))) (h10 : ((!Ao q.s.o 0 (i64.wrap (iN (List.map bA q.n.bs).length - 1))) = false)) (h11 : (CT Try.prog 127 [] [iv q.s.k, iv 1, iv 4] [] (AV.bool (Ao q.s.k 1 4)))) (h12 : ((!Ao q.s.k 1 4) = false)) (h13 : ((q.s.b != q.base) = true)) : GoO Try.prog (hU [195, 218, 238, 258, 270, 281] (BA q) (AK q)) 0 (zC (zB Try.f93) 1) (zK (zB Try.f93) 1) (CO q) (Fin Try.prog Try.f93 0 [] (AV.bool false)) :=
 zF (σ:=[]) (fz:=[]) (by kernel_rfl) (aj (al (aj (al t3) (aj h1 (aj (aj (k2 (aj h2 h3)) (u2 (ak (al (k2 (show(Nat.le (nat_lit 1) (nat_lit 1)) by first | exact nL rfl | decide)))))) (aj (u2 (u2 (u2 (aj (k2 h4) (u2 (al (k3 h4))))))) (aj (u2 (u2 (aj (k2 (al h5)) (u2 (u2 (ag h6 (ag h6 (ag h6 (ag h6 (ag h6 (ag h6 (aj (aj h6 (k5 (al h7))) (ag h6 (ag h6 (u2 (ag h8 (ag h8 (ag h8 (ag h8 (ag h8 (ag h8 (aj (aj h8 (k5 (al h9))) (ag h8 (ag h8 (u2 (ag h10 (ag h10 (aj (aj h10 (ak (k3 (al h11)))) (ag h10 (ag h10 (u2 (ag h12 (ag h12 (ag h12 (aj (aj h12 t3) (al (aj h12 t2))))))))))))))))))))))))))))))))))))) (aj h13 s2))))))) t2)
theorem mvs_5 (q : AC) (h1 : (decide (iN q.i < iN (List.map sA q.n.ss).length) = true)) (h2 : (0 <= iN q.i)) (h3 : ((List.map sA q.n.ss)[(iN q.i).toNat]? = some (sA q.s))) (h4 : (∀ (x : MapEntry), x ∈ q.l -> AZ (TypeInfo.mk TypeDesc.string "string" 1 16 true 8 8 (some (Value.string (ByteArray.mk #[]))) true #[]).desc x.key = true /\ BT (MK.i i64) x.val)) (h5 : (CT Try.prog 129 [] [AV.str q.s.nm] [] (AV.bool (nmB q.s.nm)))) (h6 : ((!nmB q.s.nm) = false)) (h7 : (CT Try.prog 127 [] [iv q.s.i, iv 0, iv (i64.wrap (iN (List.map bA q.n.bs).length - 1))] [] (AV.bool (Ao q.s.i 0 (i64.wrap (iN (List.map bA q.n.bs).length - 1)))))) (h8 : ((!Ao q.s.i 0 (i64.wrap (iN (List.map bA q.n.bs).length - 1))) = false)) (h9 : (CT Try.prog 127 [] [iv q.s.o, iv 0, iv (i64.wrap (iN (List.map bA q.n.bs).length - 1))] [] (AV.bool (Ao q.s.o 0 (i64.wrap (iN (List.map bA q.n.bs).length - 1)))))) (h10 : ((!Ao q.s.o 0 (i64.wrap (iN (List.map bA q.n.bs).length - 1))) = false)) (h11 : (CT Try.prog 127 [] [iv q.s.k, iv 1, iv 4] [] (AV.bool (Ao q.s.k 1 4)))) (h12 : ((!Ao q.s.k 1 4) = false)) (h13 : ((q.s.b != q.base) = false)) {post : Exit -> St -> Prop} (ht : T Try.prog 0 (.loop (zC (zC (zB Try.f93) 1) 0)) (St.mk 185 [(1, AV.ptr 0 0 0), (3, AV.map 1), (6, iv q.base), (7, AV.map 2), (9, AV.ptr 3 0 0), (94, AV.lst (List.map sA q.n.ss)), (95, iv (iN (List.map sA q.n.ss).length)), (96, iv (iN q.i)), (142, iv q.s.k), (143, iv 0)] [some (Blk.mk [Ag q.n] 8 true true none), some (Blk.mk [] 0 true true (some (BO TypeDesc.string (Value.string q.s.nm) (Value.int i64 (i64.wrap (Ek TypeDesc.string (Value.string q.s.nm) q.l + 1))) q.l q.c, BM TypeDesc.string (Value.string q.s.nm) q.l q.c))), some (Blk.mk [] 0 true true (some (q.l2, q.c2))), some (Blk.mk [sA q.s] 6 true true none)]) (TK Try.prog 0 post (zK (zC (zB Try.f93) 1) 0))) : GoP Try.prog (hU [195, 218, 238, 258, 270, 280] (BA q) (AK q)) 0 (zC (zB Try.f93) 1) (CO q) post :=
 zR (σ:=[0,1,2,3]) (fz:=[]) (vars:=[1,3,6,7,9,94,95,96,142,143]) (by kernel_rfl) (aj (aj (al t3) (aj h1 (aj (aj (k2 (aj h2 h3)) (u2 (ak (al (k2 (show(Nat.le (nat_lit 1) (nat_lit 1)) by first | exact nL rfl | decide)))))) (aj (u2 (u2 (u2 (aj (k2 h4) (u2 (al (k3 h4))))))) (aj (u2 (u2 (aj (k2 (al h5)) (u2 (u2 (ag h6 (ag h6 (ag h6 (ag h6 (ag h6 (ag h6 (aj (aj h6 (k5 (al h7))) (ag h6 (ag h6 (u2 (ag h8 (ag h8 (ag h8 (ag h8 (ag h8 (ag h8 (aj (aj h8 (k5 (al h9))) (ag h8 (ag h8 (u2 (ag h10 (ag h10 (aj (aj h10 (ak (k3 (al h11)))) (ag h10 (ag h10 (u2 (ag h12 (ag h12 (ag h12 (aj (aj h12 t3) (al (aj h12 t2))))))))))))))))))))))))))))))))))))) (aj h13 (al (u2 (u2 t2))))))))) (ak (k5 t9))) ht
theorem mvtx_0(q:AC)(h1:(decide (iN q.k<q.s.k)=false)){post:Exit->St->Prop}{R:St->Prop}(hR:∀st,Ren 0 st (St.mk 185 [(1,AV.ptr 0 0 0),(3,AV.map 1),(6,iv q.base),(7,AV.map 2),(94,AV.lst (List.map sA q.n.ss)),(95,iv (iN (List.map sA q.n.ss).length)),(96,iv (i64.wrap (iN q.i+1)))] [some (Blk.mk [Ag q.n] 8 true true none),some (Blk.mk [] 0 true true (some (q.l,q.c))),some (Blk.mk [] 0 true true (some (q.l2,q.c2)))])->R st):GoO Try.prog (hU [288] (BA q) (AK q)) 0 (zC (zC (zB Try.f93) 1) 0) (zK (zC (zB Try.f93) 1) 0) (EF q) (andThen R post):=
 zN (σ:=[0,1,2]) (fz:=[]) (vars:=[1,3,6,7,94,95,96]) (by kernel_rfl) (aj (aj (aj (al t3) (al h1)) (al (u2 s2))) (k2 t9)) hR
theorem mvt_0 (q : AC) (h1 : (decide (iN q.k < q.s.k) = true)) (h2 : (q.s.dep = true)) (h3 : (∀ (x : MapEntry), x ∈ q.l2 -> AZ (TypeInfo.mk (TypeDesc.int i64) "int" 1 8 false 8 8 (some (Value.int i64 0)) true #[]).desc x.key = true /\ BT MK.b x.val)) {post : Exit -> St -> Prop} {R : St -> Prop} (hR : ∀ st, Ren 0 st (St.mk 185 [(1, AV.ptr 0 0 0), (3, AV.map 1), (6, iv (i64.wrap (q.base + 1))), (7, AV.map 2), (9, AV.ptr 3 0 0), (94, AV.lst (List.map sA q.n.ss)), (95, iv (iN (List.map sA q.n.ss).length)), (96, iv (iN q.i)), (142, iv q.s.k), (143, iv (i64.wrap (iN q.k + 1)))] [some (Blk.mk [Ag q.n] 8 true true none), some (Blk.mk [] 0 true true (some (q.l, q.c))), some (Blk.mk [] 0 true true (some (BO (TypeDesc.int i64) (Value.int i64 q.base) (Value.bool true) q.l2 q.c2, BM (TypeDesc.int i64) (Value.int i64 q.base) q.l2 q.c2))), some (Blk.mk [sA q.s] 6 true true none)]) -> R st) : GoP Try.prog (hU [289, 293] (BA q) (AK q)) 0 (zC (zC (zB Try.f93) 1) 0) (EF q) (andThen R post) :=
 zN (σ:=[0,1,2,3]) (fz:=[]) (vars:=[1,3,6,7,9,94,95,96,142,143]) (by kernel_rfl) (aj (aj (al t3) (aj h1 (aj (u2 s2) (aj h2 (aj (u2 (u2 (al (k2 h3)))) (aj (u2 (u2 s2)) (al (u2 s2)))))))) (ak (k5 t9))) hR
theorem mvt_1(q:AC)(h1:(decide (iN q.k<q.s.k)=true))(h2:(q.s.dep=false)){post:Exit->St->Prop}{R:St->Prop}(hR:∀st,Ren 0 st (St.mk 185 [(1,AV.ptr 0 0 0),(3,AV.map 1),(6,iv (i64.wrap (q.base+1))),(7,AV.map 2),(9,AV.ptr 3 0 0),(94,AV.lst (List.map sA q.n.ss)),(95,iv (iN (List.map sA q.n.ss).length)),(96,iv (iN q.i)),(142,iv q.s.k),(143,iv (i64.wrap (iN q.k+1)))] [some (Blk.mk [Ag q.n] 8 true true none),some (Blk.mk [] 0 true true (some (q.l,q.c))),some (Blk.mk [] 0 true true (some (q.l2,q.c2))),some (Blk.mk [sA q.s] 6 true true none)])->R st):GoP Try.prog (hU [289,292] (BA q) (AK q)) 0 (zC (zC (zB Try.f93) 1) 0) (EF q) (andThen R post):=
 zN (σ:=[0,1,2,3]) (fz:=[]) (vars:=[1,3,6,7,9,94,95,96,142,143]) (by kernel_rfl) (aj (aj (al t3) (aj h1 (aj (u2 s2) (aj h2 (aj (u2 (u2 s2)) (al (u2 s2))))))) (ak (k5 t9))) hR
theorem mvr_0 (q : AC) (h1 : (decide (iN q.i < iN (List.map (iv) q.n.rs).length) = true)) (h2 : (0 <= iN q.i)) (h3 : ((List.map (iv) q.n.rs)[(iN q.i).toNat]? = some (iv q.x))) (h4 : (q.ok = true)) (h5 : (∀ (x : MapEntry), x ∈ q.l2 -> AZ (TypeInfo.mk (TypeDesc.int i64) "int" 1 8 false 8 8 (some (Value.int i64 0)) true #[]).desc x.key = true /\ BT MK.b x.val)) {post : Exit -> St -> Prop} {R : St -> Prop} (hR : ∀ st, Ren 0 st (St.mk 185 [(7, AV.map 0), (10, AV.bool (FP (TypeDesc.int i64) (Value.int i64 q.x) q.l2)), (169, AV.lst (List.map (iv) q.n.rs)), (170, iv (iN (List.map (iv) q.n.rs).length)), (171, iv (i64.wrap (iN q.i + 1)))] [some (Blk.mk [] 0 true true (some (CL (TypeDesc.int i64) (Value.int i64 q.x) q.l2, q.c2)))]) -> R st) : GoP Try.prog (hU [345, 353] (BA q) (AK q)) 0 (zC (zB Try.f93) 2) (FO q) (andThen R post) :=
 zN (σ:=[0]) (fz:=[]) (vars:=[7,10,169,170,171]) (by kernel_rfl) (aj (aj (al t3) (aj h1 (aj (aj (k2 (aj h2 h3)) (u2 s2)) (aj (u2 (u2 (ag h4 (ag h4 (aj (aj h4 (k2 h5)) (ag h4 s2)))))) (aj (u2 (u2 (al (k2 h5)))) (al (u2 s2))))))) t7) hR
theorem mvr_1 (q : AC) (h1 : (decide (iN q.i < iN (List.map (iv) q.n.rs).length) = true)) (h2 : (0 <= iN q.i)) (h3 : ((List.map (iv) q.n.rs)[(iN q.i).toNat]? = some (iv q.x))) (h4 : (q.ok = false)) (h5 : (∀ (x : MapEntry), x ∈ q.l2 -> AZ (TypeInfo.mk (TypeDesc.int i64) "int" 1 8 false 8 8 (some (Value.int i64 0)) true #[]).desc x.key = true /\ BT MK.b x.val)) {post : Exit -> St -> Prop} {R : St -> Prop} (hR : ∀ st, Ren 0 st (St.mk 185 [(7, AV.map 0), (10, AV.bool false), (169, AV.lst (List.map (iv) q.n.rs)), (170, iv (iN (List.map (iv) q.n.rs).length)), (171, iv (i64.wrap (iN q.i + 1)))] [some (Blk.mk [] 0 true true (some (CL (TypeDesc.int i64) (Value.int i64 q.x) q.l2, q.c2)))]) -> R st) : GoP Try.prog (hU [345, 352] (BA q) (AK q)) 0 (zC (zB Try.f93) 2) (FO q) (andThen R post) :=
 zN (σ:=[0]) (fz:=[]) (vars:=[7,10,169,170,171]) (by kernel_rfl) (aj (aj (al t3) (aj h1 (aj (aj (k2 (aj h2 h3)) (u2 s2)) (aj (u2 (u2 (aj h4 (aj h4 (aj h4 (ag h4 s2)))))) (aj (u2 (u2 (al (k2 h5)))) (al (u2 s2))))))) t7) hR
theorem mvr_2(q:AC)(h1:(decide (iN q.i<iN (List.map (iv) q.n.rs).length)=false)):GoO Try.prog (hU [344] (BA q) (AK q)) 0 (zC (zB Try.f93) 2) (zK (zB Try.f93) 2) (FO q) (Fin Try.prog Try.f93 0 [] (AV.bool q.ok)):=
 zF (σ:=[]) (fz:=[]) (by kernel_rfl) (aj (aj (aj (al t3) (al h1)) (al (u2 s2))) t2)
def qM0:AC:=⟨⟨[],[],[],[],0,0,0,0⟩,[],0,[],0,⟨⟨#[]⟩,0,0⟩,⟨⟨#[]⟩,false,0,0,0,0⟩,[],0,0,0,false,0,0,0,false,⟨#[]⟩⟩
def A2(n:Ab):AC:={qM0 with n:=n}
def qS(s:ByteArray)(i:Nat):AC:={qM0 with nb:=s,i:=i}
theorem D8(x y z:Int):CT Try.prog 127 [] [.int .i64 x,.int .i64 y,.int .i64 z] [] (.bool (Ao x y z)):=by
 unfold Ao;exact wit_ct x y z
theorem rname_ct(s:ByteArray):CT Try.prog 140 [] [.str s] [] (.bool (nmB s)):=by
 have hb:Try.f140.body=some (zB Try.f140):=by kernel_rfl
 have hn:[AV.str s].length<=Try.f140.ntmps:=nL rfl
 have hle:=OE (bAt s 0)
 unfold nmB
 cases h1:s.toList==(ByteArray.mk #[]).toList
 case true=>exact CT.pathS mix Try.func140 hb hn (rni_0 (qS s 0) h1) (by simp)
 have h0:=O7 h1
 cases h2:decide (12<iN s.size)
 case true=>exact CT.pathS mix Try.func140 hb hn (rni_1 (qS s 0) h1 h2) (by simp)
 cases h3:AM (bAt s 0)
 case false=>exact CT.pathS mix Try.func140 hb hn (rni_2 (qS s 0) h1 h2 (by simpa [iN,qS] using h0) hle (by simp only[qS];exact congrArg not h3)) (by simp)
 refine CT.path mix Try.func140 hb hn (rni_3 (qS s 0) h1 h2 (by simpa [iN,qS] using h0) hle (by simp only[qS];exact congrArg not h3) ?_)
 simp only[Ss,Bool.true_and]
 have h12:s.size<=12:=by have:=of_decide_eq_false h2;simp only[iN] at this;omega
 generalize hrr:fnd (fun i=> !(okB (bAt s i))) 0 s.size=res
 refine T.loop (fun i:Nat=>Dg (qS s i)) (fun i=>i<=s.size/\fnd (fun i=> !(okB (bAt s i))) i (s.size-i)=res) (fun i=>s.size+1-i) 0 ⟨SK _,hrr⟩ ?_
 rintro i ⟨hi,hf⟩
 by_cases h:i<s.size
 .rw[CN h] at hf
  have dk:decide (iN i<iN s.size)=true:=SE (by simp only[iN];omega)
  have k0:(0:Int)<=iN i/\iN i<iN s.size:=by simp only[iN];omega
  have k1:(0:Int)<=iN i:=by simp[iN]
  have k2:=k0.2
  have hci:=OE (bAt s i)
  have wi:i64.wrap (iN i+1)=((i+1:Nat):Int):=zW i (by omega)
  have next:okB (bAt s i)=true->∀st,Ren 0 st (Dg (qS s (i+1)))->∃j,Ren 0 st (Dg (qS s j))/\(j<=s.size/\fnd (fun i=> !(okB (bAt s i))) j (s.size-j)=res)/\s.size+1-j<s.size+1-i:=by
   intro hb st hst
   simp only[hb,Bool.not_true] at hf
   exact⟨i+1,hst,⟨h,hf⟩,by omega⟩
  have stop:okB (bAt s i)=false->res=some i:=by intro hb;simp only[hb,Ss] at hf;exact hf.symm
  cases t1:(!AM (bAt (qS s i).nb (iN (qS s i).i).toNat))
  case false=>
   exact T.path mix (rnl_7 (qS s i) dk (by first | assumption | (exact hci)) (by first | assumption | (exact hci)) (by first | assumption | (exact hci)) t1 (fun st hst=>by simp only[qS,wi] at hst;refine next ?_ st hst;clear hf hrr next stop hst;simp only[qS,iN,SH] at *;unfold okB;grind))
  case true=>
   cases t2:decide (bAt (qS s i).nb (iN (qS s i).i).toNat<48)
   case false=>
    cases t3:decide (57<bAt (qS s i).nb (iN (qS s i).i).toNat)
    case false=>
     exact T.path mix (rnl_6 (qS s i) dk (by first | assumption | (exact hci)) (by first | assumption | (exact hci)) (by first | assumption | (exact hci)) t1 t2 t3 (fun st hst=>by simp only[qS,wi] at hst;refine next ?_ st hst;clear hf hrr next stop hst;simp only[qS,iN,SH] at *;unfold okB;grind))
    case true=>
     cases t4:(bAt (qS s i).nb (iN (qS s i).i).toNat != 45)
     case false=>
      exact T.path mix (rnl_5 (qS s i) dk (by first | assumption | (exact hci)) (by first | assumption | (exact hci)) (by first | assumption | (exact hci)) t1 t2 t3 t4 (fun st hst=>by simp only[qS,wi] at hst;refine next ?_ st hst;clear hf hrr next stop hst;simp only[qS,iN,SH] at *;unfold okB;grind))
     case true=>
      cases t5:(bAt (qS s i).nb (iN (qS s i).i).toNat != 95)
      case false=>
       exact T.path mix (rnl_4 (qS s i) dk (by first | assumption | (exact hci)) (by first | assumption | (exact hci)) (by first | assumption | (exact hci)) t1 t2 t3 t4 t5 (fun st hst=>by simp only[qS,wi] at hst;refine next ?_ st hst;clear hf hrr next stop hst;simp only[qS,iN,SH] at *;unfold okB;grind))
      case true=>
       rw[stop (by clear hf hrr next;simp only[qS,iN,SH] at *;unfold okB;grind)]
       exact T.out mix (rnl_3 (qS s i) dk (by first | assumption | (exact hci)) (by first | assumption | (exact hci)) (by first | assumption | (exact hci)) t1 t2 t3 t4 t5)
   case true=>
    cases t6:(bAt (qS s i).nb (iN (qS s i).i).toNat != 45)
    case false=>
     exact T.path mix (rnl_2 (qS s i) dk (by first | assumption | (exact hci)) (by first | assumption | (exact hci)) (by first | assumption | (exact hci)) t1 t2 t6 (fun st hst=>by simp only[qS,wi] at hst;refine next ?_ st hst;clear hf hrr next stop hst;simp only[qS,iN,SH] at *;unfold okB;grind))
    case true=>
     cases t7:(bAt (qS s i).nb (iN (qS s i).i).toNat != 95)
     case false=>
      exact T.path mix (rnl_1 (qS s i) dk (by first | assumption | (exact hci)) (by first | assumption | (exact hci)) (by first | assumption | (exact hci)) t1 t2 t6 t7 (fun st hst=>by simp only[qS,wi] at hst;refine next ?_ st hst;clear hf hrr next stop hst;simp only[qS,iN,SH] at *;unfold okB;grind))
     case true=>
      rw[stop (by clear hf hrr next;simp only[qS,iN,SH] at *;unfold okB;grind)]
      exact T.out mix (rnl_0 (qS s i) dk (by first | assumption | (exact hci)) (by first | assumption | (exact hci)) (by first | assumption | (exact hci)) t1 t2 t6 t7)
 .rw[C5 h] at hf
  subst hf
  exact T.out mix (rnl_8 (qS s i) (SD (by simp only[qS,iN];omega)))
theorem vcfg_ct(n:Ab):CT Try.prog 128 [] [.agg [.int .i64 n.q,.int .i64 n.a,.int .i64 n.d,.int .i64 n.p]] [] (.bool (A9 n)):=by
 have hb:Try.f128.body=some (zB Try.f128):=by kernel_rfl
 have hn:[AV.agg [.int .i64 n.q,.int .i64 n.a,.int .i64 n.d,.int .i64 n.p]].length<=Try.f128.ntmps:=nL rfl
 have w1:=D8 n.q 1 8
 have w2:=D8 n.a 0 4
 have w3:=D8 n.d 0 3
 have w4:=D8 n.p 1 16
 cases t8:Ao (A2 n).n.q 1 8
 case false=>
  exact CT.pathS mix Try.func128 hb hn (mvc_3 (A2 n) (by first | assumption | (simp[iN])) t8) (by simp only[A2] at *;unfold A9;grind)
 case true=>
  cases t9:Ao (A2 n).n.a 0 4
  case false=>
   exact CT.pathS mix Try.func128 hb hn (mvc_2 (A2 n) (by first | assumption | (simp[iN])) t8 (by first | assumption | (simp[iN])) t9) (by simp only[A2] at *;unfold A9;grind)
  case true=>
   cases t10:Ao (A2 n).n.d 0 3
   case false=>
    exact CT.pathS mix Try.func128 hb hn (mvc_1 (A2 n) (by first | assumption | (simp[iN])) t8 (by first | assumption | (simp[iN])) t9 (by first | assumption | (simp[iN])) t10) (by simp only[A2] at *;unfold A9;grind)
   case true=>
    exact CT.pathS mix Try.func128 hb hn (mvc_0 (A2 n) (by first | assumption | (simp[iN])) t8 (by first | assumption | (simp[iN])) t9 (by first | assumption | (simp[iN])) t10 (by first | assumption | (simp[iN]))) (by simp only[A2] at *;unfold A9;grind)
theorem rcfg_ct(n:Ab):CT Try.prog 115 [] [.agg [.int .i64 n.q,.int .i64 n.a,.int .i64 n.d,.int .i64 n.p]] [] (.bool (A9 n)):=by
 have hb:Try.f115.body=some (zB Try.f115):=by kernel_rfl
 have hn:[AV.agg [.int .i64 n.q,.int .i64 n.a,.int .i64 n.d,.int .i64 n.p]].length<=Try.f115.ntmps:=nL rfl
 cases t11:decide (1<=(A2 n).n.q)
 case false=>
  exact CT.pathS mix Try.func115 hb hn (cg_7 (A2 n) t11) (by simp only[A2] at *;unfold A9 Ao;grind)
 case true=>
  cases t12:decide ((A2 n).n.q<=8)
  case false=>
   exact CT.pathS mix Try.func115 hb hn (cg_6 (A2 n) t11 t12) (by simp only[A2] at *;unfold A9 Ao;grind)
  case true=>
   cases t13:decide (0<=(A2 n).n.a)
   case false=>
    exact CT.pathS mix Try.func115 hb hn (cg_5 (A2 n) t11 t12 t13) (by simp only[A2] at *;unfold A9 Ao;grind)
   case true=>
    cases t14:decide ((A2 n).n.a<=4)
    case false=>
     exact CT.pathS mix Try.func115 hb hn (cg_4 (A2 n) t11 t12 t13 t14) (by simp only[A2] at *;unfold A9 Ao;grind)
    case true=>
     cases t15:decide (0<=(A2 n).n.d)
     case false=>
      exact CT.pathS mix Try.func115 hb hn (cg_3 (A2 n) t11 t12 t13 t14 t15) (by simp only[A2] at *;unfold A9 Ao;grind)
     case true=>
      cases t16:decide ((A2 n).n.d<=3)
      case false=>
       exact CT.pathS mix Try.func115 hb hn (cg_2 (A2 n) t11 t12 t13 t14 t15 t16) (by simp only[A2] at *;unfold A9 Ao;grind)
      case true=>
       cases t17:decide (1<=(A2 n).n.p)
       case false=>
        exact CT.pathS mix Try.func115 hb hn (cg_1 (A2 n) t11 t12 t13 t14 t15 t16 t17) (by simp only[A2] at *;unfold A9 Ao;grind)
       case true=>
        exact CT.pathS mix Try.func115 hb hn (cg_0 (A2 n) t11 t12 t13 t14 t15 t16 t17) (by simp only[A2] at *;unfold A9 Ao;grind)
def qR(r:List Int)(x y z:Int)(i:Nat)(k:Int):AC:={qM0 with r:=r,x:=x,y:=y,z:=z,i:=i,base:=k}
theorem vnext_ct(r:List Int)(x y:Int)(hr63:r.length<=9223372036854775807):CT Try.prog 130 [] [lI r,.int .i64 x,.int .i64 y] [] (.bool (nxB r x y)):=by
 have hb:Try.f130.body=some (zB Try.f130):=by kernel_rfl
 have hn:[lI r,.int .i64 x,.int .i64 y].length<=Try.f130.ntmps:=nL rfl
 have hl:(r.map (AV.int .i64)).length=r.length:=by simp
 unfold nxB
 refine CT.path mix Try.func130 hb hn (vni_0 (qR r x y 0 0 0) ?_)
 generalize hrr:fnd (nxE r x y) 0 r.length=res
 refine T.loop (fun i:Nat=>Fw (qR r x y (BX r i) i 0)) (fun i=>i<=r.length/\fnd (nxE r x y) i (r.length-i)=res) (fun i=>r.length+1-i) 0 ⟨SK _,hrr⟩ ?_
 rintro i ⟨hi,hf⟩
 by_cases h:i<r.length
 .rw[CN h] at hf
  have dk:decide (iN i<iN (r.map (AV.int .i64)).length)=true:=SE (by simp only[iN,hl];omega)
  have k1:(0:Int)<=iN i:=by simp[iN]
  have hg:=Bp h
  have next:nxE r x y i=false->∀st,Ren 0 st (Fw (qR r x y (BX r (i+1)) (i+1) 0))->∃j,Ren 0 st (Fw (qR r x y (BX r j) j 0))/\(j<=r.length/\fnd (nxE r x y) j (r.length-j)=res)/\r.length+1-j<r.length+1-i:=by
   intro hb st hst
   simp only[hb] at hf
   exact⟨i+1,hst,⟨h,hf⟩,by omega⟩
  have stop:nxE r x y i=true->res=some i:=by intro hb;simp only[hb] at hf;exact hf.symm
  have wi:i64.wrap (iN i+1)=((i+1:Nat):Int):=zW i (by have:=hr63;omega)
  cases t18:decide ((qR r x y (BX r i) i (r.getD i 0)).base<=(qR r x y (BX r i) i (r.getD i 0)).z)
  case false=>
   cases t19:decide ((qR r x y (BX r i) i (r.getD i 0)).y<=(qR r x y (BX r i) i (r.getD i 0)).base)
   case false=>
    cases t20:((qR r x y (BX r i) i (r.getD i 0)).base==(qR r x y (BX r i) i (r.getD i 0)).x)
    case false=>
     exact T.path mix (vnl_3 (qR r x y (BX r i) i (r.getD i 0)) dk (by first | assumption | (exact hg)) (by first | assumption | (exact hg)) t18 t19 t20 (fun st hst=>by simp only[qR,wi] at hst;exact next (by simp only[qR,iN,SH] at *;unfold nxE;grind) st (by simp only[qR,Qa];exact hst)))
    case true=>
     rw[stop (by simp only[qR,iN,SH] at *;unfold nxE;grind)]
     exact T.out mix (vnl_2 (qR r x y (BX r i) i (r.getD i 0)) dk (by first | assumption | (exact hg)) (by first | assumption | (exact hg)) t18 t19 t20)
   case true=>
    rw[stop (by simp only[qR,iN,SH] at *;unfold nxE;grind)]
    exact T.out mix (vnl_1 (qR r x y (BX r i) i (r.getD i 0)) dk (by first | assumption | (exact hg)) (by first | assumption | (exact hg)) t18 t19)
  case true=>
   rw[stop (by simp only[qR,iN,SH] at *;unfold nxE;grind)]
   exact T.out mix (vnl_0 (qR r x y (BX r i) i (r.getD i 0)) dk (by first | assumption | (exact hg)) (by first | assumption | (exact hg)) t18)
 .rw[C5 h] at hf
  subst hf
  rw[show (!(none:Option Nat).isSome&&decide (r.length<=4))=decide (iN (List.map iV r).length<=4) by simp[iN,hl];omega]
  exact T.out mix (vnl_4 (qR r x y (BX r i) i 0) (SD (by simp only[qR,iN,hl];omega)))
def Bq(l:List MapEntry):List Value:=l.map (·.key)
theorem GV(l:List MapEntry):(Bq l).length=l.length:=by simp[Bq]
theorem HK{l:List MapEntry}{k:Value}:k∈Bq l↔∃e∈l,e.key=k:=by simp[Bq]
theorem HN{d:TypeDesc}{mk:MK}{k:Value}{l:List MapEntry}(hk:AZ d k=true)(hl:CI d mk l):
  (Cb d k l=none/\k∉Bq l)\/∃j e,Cb d k l=some (j,e.val)/\l[j]?=some e/\e.key=k:=by
 rcases Hy (Gi hk) hl.keys with ⟨_,h2,h3⟩ | ⟨j,e,_,h2,h3,h4⟩
 .exact .inl ⟨h2,fun hm=>by obtain⟨e,he,hek⟩:=HK.1 hm;exact h3 e he hek⟩
 .exact .inr ⟨j,e,h2,h3,h4⟩
open Classical in
theorem NX{d:TypeDesc}{mk:MK}{k v:Value}{l:List MapEntry}{c:Nat}(hk:AZ d k=true)(hl:CI d mk l):
  Bq (BO d k v l c)=if k∈Bq l then Bq l else Bq l++[k]:=by
 unfold BO
 rcases HN hk hl with ⟨h1,h2⟩ | ⟨j,e,h1,h2,h3⟩
 .rw[h1,Sx h2];simp[Bq]
 .rw[h1,Sw (HK.2 ⟨e,SC h2,h3⟩)]
  simp only[Bq]
  apply List.ext_getElem?
  intro i
  simp only[SI,List.getElem?_modify]
  split
  .cases l[i]?<;>rfl
  .simp
theorem OB{d:TypeDesc}{mk:MK}{k v:Value}{l:List MapEntry}{c:Nat}(hk:AZ d k=true)(hv:BT mk v)(hl:CI d mk l):CI d mk (BO d k v l c):=by
 unfold BO
 rcases HN hk hl with ⟨h1,h2⟩ | ⟨j,e,h1,h2,h3⟩
 .rw[h1]
  intro x hx
  simp only[S2,Sn] at hx
  rcases hx with hx | rfl
  .exact hl x hx
  .exact⟨hk,hv⟩
 .rw[h1]
  intro x hx
  simp only at hx
  obtain⟨i,hi⟩:=List.mem_iff_getElem?.1 hx
  rw[List.getElem?_modify] at hi
  split at hi
  .cases hli:l[i]? with
   | none=>rw[hli] at hi;cases hi
   | some y=>rw[hli] at hi;simp at hi;subst hi;exact⟨(hl y (SC hli)).1,hv⟩
  .exact hl x (SC (by simpa using hi))
theorem vals_upd{d:TypeDesc}{mk:MK}{k v:Value}{l:List MapEntry}{c:Nat}{p:Value->Prop}(hk:AZ d k=true)(hl:CI d mk l)(hp:∀e∈l,p e.val)(hv:p v):∀e∈BO d k v l c,p e.val:=by
 unfold BO
 rcases HN hk hl with ⟨h1,h2⟩ | ⟨j,e,h1,h2,h3⟩
 .rw[h1]
  intro x hx
  simp only[S2,Sn] at hx
  rcases hx with hx | rfl
  .exact hp x hx
  .exact hv
 .rw[h1]
  intro x hx
  simp only at hx
  obtain⟨i,hi⟩:=List.mem_iff_getElem?.1 hx
  rw[List.getElem?_modify] at hi
  split at hi
  .cases hli:l[i]? with
   | none=>rw[hli] at hi;cases hi
   | some y=>rw[hli] at hi;simp at hi;subst hi;exact hv
  .exact hp x (SC (by simpa using hi))
structure DT(xs:List ByteArray)(l:List MapEntry):Prop where
 ok:CI .string (.i .i64) l
 key:∀x,Value.string x∈Bq l↔x∈xs
 le:l.length<=xs.length
 iff:l.length=xs.length↔xs.Nodup
theorem DT.nil:DT [] []:=⟨fun x hx=>(by cases hx),fun x=>(by simp[Bq]),SJ _,(by simp)⟩
theorem DT.step{xs:List ByteArray}{l:List MapEntry}{c:Nat}{x:ByteArray}{n:Int}(h:DT xs l):DT (xs++[x]) (BO .string (.string x) (.int .i64 n) l c):=by
 have hk:AZ .string (.string x)=true:=rfl
 have hku:=NX (v:=.int .i64 n) (c:=c) hk h.ok
 have hlen:=GV (BO .string (.string x) (.int .i64 n) l c)
 rw[hku] at hlen
 refine⟨OB hk rfl h.ok,fun y=>?_,?_,?_⟩
 .rw[hku]
  by_cases hx:Value.string x∈Bq l
  .rw[Sw hx,h.key]
   simp only[S2,Sn]
   exact⟨.inl,fun hy=>hy.elim id fun e=>by subst e;exact(h.key y).1 hx⟩
  .rw[Sx hx]
   simp only[S2,Sn,h.key]
   constructor
   .rintro(a | a)
    .exact .inl a
    .cases a;exact .inr rfl
   .rintro(a | rfl)
    .exact .inl a
    .exact .inr rfl
 .have:=h.le
  by_cases hx:Value.string x∈Bq l
  .rw[Sw hx,GV] at hlen;simp;omega
  .rw[Sx hx] at hlen;simp[GV] at hlen;simp;omega
 .have hle:=h.le
  by_cases hx:Value.string x∈Bq l
  .rw[Sw hx,GV] at hlen
   have hxx:=(h.key x).1 hx
   constructor
   .intro he;simp at he;omega
   .intro hn
    rw[List.nodup_append] at hn
    exact absurd rfl (hn.2.2 x hxx x (by simp))
  .rw[Sx hx] at hlen
   simp[GV] at hlen
   have hxx:x∉xs:=fun hh=>hx ((h.key x).2 hh)
   have:=h.iff
   simp only[SR,Tc,List.nodup_append]
   constructor
   .intro he
    refine⟨this.1 (by omega),by simp,fun a ha b hb=>?_⟩
    simp at hb;subst hb;intro e;subst e;exact hxx ha
   .intro hn;have:=this.2 hn.1;omega
structure Bx(S:Int->Prop)(l:List MapEntry):Prop where
 ok:CI (.int .i64) .b l
 key:∀x,Value.int .i64 x∈Bq l↔S x
 nd:(Bq l).Nodup
 tru:∀e∈l,e.val = .bool true
theorem Bx.nil:Bx (fun _=>False) []:=⟨fun x hx=>(by cases hx),fun x=>(by simp[Bq]),(by simp[Bq]),fun e he=>(by cases he)⟩
theorem Bx.congr{S S':Int->Prop}{l:List MapEntry}(h:Bx S l)(hs:∀x,S x↔S' x):Bx S' l:=⟨h.ok,fun x=>(h.key x).trans (hs x),h.nd,h.tru⟩
theorem Ir(x:Int):AZ (.int .i64) (.int .i64 x)=true:=rfl
theorem Bx.put{S:Int->Prop}{l:List MapEntry}{c:Nat}{x:Int}(h:Bx S l):Bx (fun y=>S y\/y=x) (BO (.int .i64) (.int .i64 x) (.bool true) l c):=by
 have hku:=NX (v:=.bool true) (c:=c) (Ir x) h.ok
 refine⟨OB (Ir x) trivial h.ok,fun y=>?_,?_,vals_upd (p:=fun v=>v = .bool true) (Ir x) h.ok h.tru rfl⟩
 .rw[hku]
  by_cases hx:Value.int .i64 x∈Bq l
  .rw[Sw hx,h.key]
   exact⟨.inl,fun hy=>hy.elim id fun e=>by subst e;exact(h.key y).1 hx⟩
  .rw[Sx hx]
   simp only[S2,Sn,h.key,Value.int.injEq,true_and]
 .rw[hku]
  by_cases hx:Value.int .i64 x∈Bq l
  .rw[Sw hx];exact h.nd
  .rw[Sx hx,List.nodup_append]
   refine⟨h.nd,by simp,fun a ha b hb=>?_⟩
   simp at hb;subst hb;intro e;subst e;exact hx ha
open Classical in
theorem Bx.get{S:Int->Prop}{l:List MapEntry}(h:Bx S l)(x:Int):FP (.int .i64) (.int .i64 x) l=decide (S x):=by
 unfold FP
 rcases HN (Ir x) h.ok with ⟨h1,h2⟩ | ⟨j,e,h1,h2,h3⟩
 .rw[h1];exact(SD fun hs=>h2 ((h.key x).2 hs)).symm
 .have hm:=SC h2
  rw[h1,h.tru e hm]
  exact(SE ((h.key x).1 (HK.2 ⟨e,hm,h3⟩))).symm
theorem Bx.del{S:Int->Prop}{l:List MapEntry}{x:Int}(h:Bx S l):Bx (fun y=>S y/\y≠x) (CL (.int .i64) (.int .i64 x) l):=by
 unfold CL
 rcases HN (Ir x) h.ok with ⟨h1,h2⟩ | ⟨j,e,h1,h2,h3⟩
 .rw[h1]
  exact h.congr fun y=>⟨fun hy=>⟨hy,fun e=>by subst e;exact h2 ((h.key y).2 hy)⟩,(·.1)⟩
 .rw[h1]
  simp only
  have hj:=(SA.1 h2).1
  have hkj:(Bq l)[j]'(by rw[GV];exact hj) = .int .i64 x:=by
   have:=(SA.1 h2).2
   simp[Bq,this,h3]
  have hke:Bq (l.eraseIdx j)=(Bq l).eraseIdx j:=by simp only[Bq,List.eraseIdx_eq_take_drop_succ,SL,List.map_take,List.map_drop]
  have hsub:List.Sublist (l.eraseIdx j) l:=List.eraseIdx_sublist l j
  refine⟨fun y hy=>h.ok y (hsub.subset hy),fun y=>?_,?_,fun y hy=>h.tru y (hsub.subset hy)⟩
  .rw[hke,<-h.key]
   rw[List.mem_eraseIdx_iff_getElem]
   constructor
   .rintro⟨i,hi,hij,hiy⟩
    refine⟨hiy ▸ S4 _,fun e=>?_⟩
    subst e
    apply hij
    exact(List.getElem_inj h.nd).1 (hiy.trans hkj.symm)
   .rintro⟨hy,hne⟩
    obtain⟨i,hi,hiy⟩:=Ta.1 hy
    refine⟨i,hi,fun e=>?_,hiy⟩
    subst e
    rw[hiy] at hkj
    simp at hkj
    exact hne hkj
  .rw[hke];exact h.nd.sublist (List.eraseIdx_sublist _ _)
theorem Bx.pos{S:Int->Prop}{l:List MapEntry}(h:Bx S l):0<l.length↔∃x,S x:=by
 constructor
 .intro hp
  have hm:=S4 (l:=l) (n:=0) hp
  have hk:=(h.ok _ hm).1
  cases hkv:l[0].key with
  | int k n=>
   rw[hkv] at hk
   simp[AZ] at hk
   subst hk
   exact⟨n,(h.key n).1 (HK.2 ⟨_,hm,hkv⟩)⟩
  | _=>rw[hkv] at hk;simp[AZ] at hk
 .rintro⟨x,hx⟩
  obtain⟨e,he,_⟩:=HK.1 ((h.key x).2 hx)
  exact Tu he
structure Gb(n:Ab)(i:Nat)(b:AL):Prop where
 nm:nmB b.nm=true
 x:Ao b.x (-9999) 9999=true
 y:Ao b.y (-9999) 9999=true
 nx:nxB (n.nx.getD i []) i n.bs.length=true
def Av(n:Ab)(i:Nat):Int:=n.bs.length+((n.ss.take i).map (·.k)).sum
structure DN(n:Ab)(i:Nat)(s:An):Prop where
 nm:nmB s.nm=true
 hi:Ao s.i 0 ((n.bs.length:Int)-1)=true
 ho:Ao s.o 0 ((n.bs.length:Int)-1)=true
 hk:Ao s.k 1 4=true
 hb:s.b=Av n i
def AQ(n:Ab)(i:Nat)(x:Int):Prop:=∃s∈n.ss.take i,s.dep=true/\s.b<=x/\x<s.b+s.k
structure Aw(n:Ab):Prop where
 nb:Ao n.bs.length 1 24=true
 nx:n.nx.length=n.bs.length
 ns:n.ss.length<=6
 nr:n.rs.length<=8
 cfg:A9 n=true
 blk:∀i b,n.bs[i]?=some b->Gb n i b
 spu:∀i s,n.ss[i]?=some s->DN n i s
 nod:(BZ n).Nodup
 dep:∃x,AQ n n.ss.length x
 rob:∀i c,n.rs[i]?=some c->AQ n n.ss.length c/\c∉n.rs.take i
open Classical in
def AY(n:Ab):Bool:=decide (Aw n)
theorem Cu{n:Ab}(h:¬Aw n):AY n=false:=by unfold AY;exact @SD _ (Classical.propDecidable _) h
theorem Cz{n:Ab}:AY n=true↔Aw n:=by unfold AY;exact @decide_eq_true_iff _ (Classical.propDecidable _)
theorem C9{n:Ab}{i:Nat}{s:An}(h:n.ss[i]?=some s):Av n (i+1)=Av n i+s.k:=by
 unfold Av
 simp[List.take_add_one,h,List.sum_append];omega
theorem Nv{n:Ab}{i:Nat}{s:An}(h:n.ss[i]?=some s)(x:Int):AQ n (i+1) x↔AQ n i x\/(s.dep=true/\s.b<=x/\x<s.b+s.k):=by
 unfold AQ
 simp only[List.take_add_one,h,Option.toList_some,S2,Sn]
 constructor
 .rintro⟨t,ht | rfl,h1⟩
  .exact .inl ⟨t,ht,h1⟩
  .exact .inr h1
 .rintro(⟨t,ht,h1⟩ | h1)
  .exact⟨t,.inl ht,h1⟩
  .exact⟨s,.inr rfl,h1⟩
theorem I9{l:List AL}{i:Nat}{b:AL}(h:l[i]?=some b):(l.map bA)[i]?=some (.agg [.str b.nm,.int .i64 b.x,.int .i64 b.y]):=by rw[SI,h];rfl
theorem C0{l:List An}{i:Nat}{s:An}(h:l[i]?=some s):(l.map sA)[i]?=some (.agg [.str s.nm,.bool s.dep,.int .i64 s.i,.int .i64 s.o,.int .i64 s.k,.int .i64 s.b]):=by rw[SI,h];rfl
def qV(n:Ab)(l:List MapEntry)(c:Nat)(l2:List MapEntry)(c2:Nat)(b:AL)(s:An)(r:List Int)(i:Nat)(base:Int)(k:Nat)(ok:Bool)(x:Int):AC:=
 ⟨n,l,c,l2,c2,b,s,r,i,base,k,ok,x,0,0,false,⟨#[]⟩⟩
def b0:AL:=⟨⟨#[]⟩,0,0⟩
def s0:An:=⟨⟨#[]⟩,false,0,0,0,0⟩
structure MP where
 i:Nat
 l:List MapEntry
 c:Nat
 l2:List MapEntry
 c2:Nat
 k:Nat
 ok:Bool
open Classical in
theorem Nt{n:Ab}(hnr:n.rs.length<=8){l2:List MapEntry}{c2:Nat}(hset:Bx (AQ n n.ss.length) l2)(ok:Bool):
  T Try.prog 0 (.loop (zC (zB Try.f93) 2)) (FO (qV n [] 0 l2 c2 b0 s0 [] 0 0 0 ok 0)) (TK Try.prog 0 (Fin Try.prog Try.f93 0 [] (.bool (ok&&decide (∀i c,n.rs[i]?=some c->AQ n n.ss.length c/\c∉n.rs.take i)))) (zK (zB Try.f93) 2)):=by
 have hl:(n.rs.map (AV.int .i64)).length=n.rs.length:=by simp
 refine T.loop (fun p:MP=>FO (qV n [] 0 p.l2 p.c2 b0 s0 [] p.i 0 0 p.ok 0)) (fun p=>p.i<=n.rs.length/\Bx (fun x=>AQ n n.ss.length x/\x∉n.rs.take p.i) p.l2/\p.ok=(ok&&decide (∀i c,i<p.i->n.rs[i]?=some c->AQ n n.ss.length c/\c∉n.rs.take i)))
  (fun p=>n.rs.length+1-p.i) ⟨0,[],0,l2,c2,0,ok⟩ ⟨SK _,hset.congr fun x=>by simp,by simp⟩ ?_
 rintro⟨i,l,c,l2,c2,k,ok'⟩ ⟨hi,hs,hok⟩
 simp only at hi hs hok
 by_cases h:i<n.rs.length
 .obtain⟨x,hx⟩:∃x,n.rs[i]?=some x:=⟨_,Sy h⟩
  have hg:(n.rs.map (AV.int .i64))[i]?=some (.int .i64 x):=by rw[SI,hx];rfl
  have dk:decide (iN i<iN (n.rs.map (AV.int .i64)).length)=true:=SE (by simp only[iN,hl];omega)
  have k1:(0:Int)<=iN i:=by simp[iN]
  have hm : ∀ (x : MapEntry), x ∈ l2 -> AZ (TypeInfo.mk (TypeDesc.int i64) "int" 1 8 false 8 8 (some (Value.int i64 0)) true #[]).desc x.key = true /\ BT MK.b x.val := hs.ok
  have wi:i64.wrap (iN i+1)=((i+1:Nat):Int):=zW i (by omega)
  have hgt:=hs.get x
  have hset':Bx (fun y=>AQ n n.ss.length y/\y∉n.rs.take (i+1)) (CL (.int .i64) (.int .i64 x) l2):=hs.del.congr fun y=>by
   simp only[List.take_add_one,hx,Option.toList_some,S2,Sn,not_or,and_assoc]
  have hstep:∀b:Bool,b=(ok&&decide (∀i_1 c,i_1<i->n.rs[i_1]?=some c->AQ n n.ss.length c/\c∉n.rs.take i_1))->
    (b&&decide (AQ n n.ss.length x/\x∉n.rs.take i))=(ok&&decide (∀i_1 c,i_1<i+1->n.rs[i_1]?=some c->AQ n n.ss.length c/\c∉n.rs.take i_1)):=by
   intro b hb
   rw[hb,Bool.and_assoc]
   congr 1
   rw[<-Bool.decide_and]
   apply decide_eq_decide.2
   constructor
   .rintro⟨h1,h2⟩ j y hj hy
    by_cases e:j=i
    .subst e;rw[hx] at hy;cases hy;exact h2
    .exact h1 j y (by omega) hy
   .intro hh
    exact⟨fun j y hj hy=>hh j y (by omega) hy,hh i x (by omega) hx⟩
  have next:∀b,b=(ok&&decide (∀i_1 c,i_1<i+1->n.rs[i_1]?=some c->AQ n n.ss.length c/\c∉n.rs.take i_1))->∀st,Ren 0 st (FO (qV n [] 0 (CL (.int .i64) (.int .i64 x) l2) c2 b0 s0 [] (i+1) 0 0 b 0))->
    ∃j,Ren 0 st ((fun p:MP=>FO (qV n [] 0 p.l2 p.c2 b0 s0 [] p.i 0 0 p.ok 0)) j)/\((fun p:MP=>p.i<=n.rs.length/\Bx (fun x=>AQ n n.ss.length x/\x∉n.rs.take p.i) p.l2/\p.ok=(ok&&decide (∀i c,i<p.i->n.rs[i]?=some c->AQ n n.ss.length c/\c∉n.rs.take i))) j)/\n.rs.length+1-j.i<n.rs.length+1-i:=by
   intro b hb st hst
   exact⟨⟨i+1,[],0,_,c2,0,b⟩,hst,⟨h,hset',hb⟩,by simp only;omega⟩
  cases hb:ok'
  case true=>
   refine T.path mix (mvr_0 (qV n [] 0 l2 c2 b0 s0 [] i 0 0 true x) dk k1 hg rfl hm ?_)
   intro st hst
   simp only[qV,wi,hgt] at hst
   exact next _ (by rw[<-hstep ok' hok,hb,Bool.true_and];exact decide_eq_decide.2 Iff.rfl) st hst
  case false=>
   refine T.path mix (mvr_1 (qV n [] 0 l2 c2 b0 s0 [] i 0 0 false x) dk k1 hg rfl hm ?_)
   intro st hst
   simp only[qV,wi] at hst
   exact next false (by rw[<-hstep ok' hok,hb,Bool.false_and]) st hst
 .have hin:i=n.rs.length:=by omega
  have e:ok'=(ok&&decide (∀i c,n.rs[i]?=some c->AQ n n.ss.length c/\c∉n.rs.take i)):=by
   rw[hok]
   congr 1
   apply decide_eq_decide.2
   constructor
   .intro hh j y hy;exact hh j y (by have:=(SA.1 hy).1;omega) hy
   .intro hh j y _ hy;exact hh j y hy
  rw[<-e]
  exact T.out mix (mvr_2 (qV n [] 0 l2 c2 b0 s0 [] i 0 0 ok' 0) (SD (by simp only[qV,iN,hl];omega)))
end Go.Proofs.Ytedjkebooffjpaa

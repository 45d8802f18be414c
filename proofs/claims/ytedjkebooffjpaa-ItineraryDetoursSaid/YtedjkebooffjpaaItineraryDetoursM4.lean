/- Parts of the proof:Rt7p,RtN,RtO,Rt8p,RtP,RtR,RtQ,Rt11p,RtA,Rt13p,RtC,RtD,Rt9p,RtU,Gi1p,GiA,GiB,Rt12p,RtB,GiC,Gi2p,GiD,NmA,Nm2p,NmC,NmD,NmE. -/
import Derived.Test.YtedjkebooffjpaaProg
import Derived.KernelRfl
import Derived.Test.YtedjkebooffjpaaItineraryDetoursM3
noncomputable section
set_option linter.unusedVariables false
set_option linter.unusedSimpArgs false
open Go Go.AX Go.Proofs
set_option maxRecDepth 100000
set_option maxHeartbeats 4000000
set_option linter.unusedVariables false
open Go.IntKind (i64 u64)
open List renaming map->Uu,range->Uy
open Int renaming toNat->Uz
open Go.AX.AV renaming lst->UA
open Go.Proofs.Try renaming prog->UB
namespace Go.Proofs.Ytedjkebooffjpaa
def Hz(q:QK):List (Nat×AV):=[(23,lI q.r),(31,lI q.r),(34,.int .i64 q.e),(55,lI q.r),(59,.int .i64 (q.p.getD 0 0))]
def st40(q:QK):St:={n:=Try.f145.ntmps,fr:=[(0,.lst (gL q.g))],hp:=[]}
def Kz(q:QK):St:={n:=Try.f145.ntmps,fr:=[(0,.lst (gL q.g)),(3,.int .i64 (iN q.a))],hp:=[]}
def DS(q:QK):St:={n:=Try.f145.ntmps,fr:=[(0,.lst (gL q.g)),(3,.int .i64 (iN q.a)),(4,.int .i64 (iN q.i))],hp:=[]}
def e40(q:QK):List (Nat×AV):=[(18,lI q.r),(26,lI q.r),(29,.int .i64 q.e),(51,lI q.r),(55,.int .i64 (q.p.getD 0 0))]
def st35(q:QK):St:={n:=Try.f134.ntmps,fr:=[(0,.lst (gL q.g)),(1,.lst (boL q.s))],hp:=[]}
def cV(q:QK):Nat->FuncId->List AV->List (Option Blk)->AG:=fun dst f args _=>match f with
 | 145=>.call [] [] [] (.bool q.b)
 | 134=>.call [] [] [] (.int .i64 q.e)
 | _=>.no
theorem cgr_0(q:QK)(h1:(decide (iN q.i<iN q.r.length)=true))(h2:(0<=iN q.a))(h3:((gL q.g)[(iN q.a).toNat]?=some (UA (Uu iv q.r))))(h4:(0<=iN q.i))(h5:((Uu iv q.r)[(iN q.i).toNat]?=some (iv q.e)))(h6:(decide (q.e<0)=true)){post:Exit->St->Prop}(hP:Bl post (Fin UB Try.f70 0 [] (iv 20))):GoO UB (hU [55,77] (Hz q) (cK q)) 0 (zC (zC (zB Try.f70) 0) 0) (zK (zC (zB Try.f70) 0) 0) (DH q) post:=CL (σ:=[]) (fz:=[]) (by kernel_rfl) (aj (al (aj (al t3) (aj h1 (aj (u2 s2) (aj (u2 (u2 (aj (k2 (aj h2 h3)) (u2 (u2 (aj (k2 (aj h4 h5)) (u2 s2))))))) (aj (u2 (u2 (u2 (aj h6 (aj h6 (aj h6 (ag h6 (u2 (k3 (aj t3 (u2 (ak (k3 (k5 (k5 (al t3)))))))))))))))) (ak s2))))))) t2) hP
theorem cgr_1(q:QK)(h1:(decide (iN q.i<iN q.r.length)=true))(h2:(0<=iN q.a))(h3:((gL q.g)[(iN q.a).toNat]?=some (UA (Uu iv q.r))))(h4:(0<=iN q.i))(h5:((Uu iv q.r)[(iN q.i).toNat]?=some (iv q.e)))(h6:(decide (q.e<0)=false))(h7:(decide (iN q.g.length<=q.e)=true)){post:Exit->St->Prop}(hP:Bl post (Fin UB Try.f70 0 [] (iv 20))):GoO UB (hU [55,76,87] (Hz q) (cK q)) 0 (zC (zC (zB Try.f70) 0) 0) (zK (zC (zB Try.f70) 0) 0) (DH q) post:=CL (σ:=[]) (fz:=[]) (by kernel_rfl) (aj (al (aj (al t3) (aj h1 (aj (u2 s2) (aj (u2 (u2 (aj (k2 (aj h2 h3)) (u2 (u2 (aj (k2 (aj h4 h5)) (u2 s2))))))) (aj (u2 (u2 (u2 (ag h6 (ag h6 (aj (aj h6 t3) (ag h6 (u2 (aj h7 (aj h7 (aj h7 (ag h7 (u2 (ak (k3 (k5 (k5 (al t3)))))))))))))))))) (ak s2))))))) t2) hP
theorem cgr_2(q:QK)(h1:(decide (iN q.i<iN q.r.length)=true))(h2:(0<=iN q.a))(h3:((gL q.g)[(iN q.a).toNat]?=some (UA (Uu iv q.r))))(h4:(0<=iN q.i))(h5:((Uu iv q.r)[(iN q.i).toNat]?=some (iv q.e)))(h6:(decide (q.e<0)=false))(h7:(decide (iN q.g.length<=q.e)=false))(h8:((q.e==iN q.a)=true)){post:Exit->St->Prop}(hP:Bl post (Fin UB Try.f70 0 [] (iv 20))):GoO UB (hU [55,76,86,97] (Hz q) (cK q)) 0 (zC (zC (zB Try.f70) 0) 0) (zK (zC (zB Try.f70) 0) 0) (DH q) post:=CL (σ:=[]) (fz:=[]) (by kernel_rfl) (aj (al (aj (al t3) (aj h1 (aj (u2 s2) (aj (u2 (u2 (aj (k2 (aj h2 h3)) (u2 (u2 (aj (k2 (aj h4 h5)) (u2 s2))))))) (aj (u2 (u2 (u2 (ag h6 (ag h6 (aj (aj h6 t3) (ag h6 (u2 (ag h7 (ag h7 (aj (aj h7 t3) (ag h7 (u2 (aj h8 (aj h8 (aj h8 (k5 (k5 (aj h8 (al (aj h8 t2))))))))))))))))))))) (ak s2))))))) t2) hP
theorem cgr_3(q:QK)(h1:(decide (iN q.i<iN q.r.length)=true))(h2:(0<=iN q.a))(h3:((gL q.g)[(iN q.a).toNat]?=some (UA (Uu iv q.r))))(h4:(0<=iN q.i))(h5:((Uu iv q.r)[(iN q.i).toNat]?=some (iv q.e)))(h6:(decide (q.e<0)=false))(h7:(decide (iN q.g.length<=q.e)=false))(h8:((q.e==iN q.a)=false))(h9:(decide (0<iN q.i)=true))(h10:(0<=i64.wrap (iN q.i-1)))(h11:((Uu iv q.r)[(i64.wrap (iN q.i-1)).toNat]?=some (iv (q.p.getD 0 0))))(h12:(decide (q.e<=q.p.getD 0 0)=true)){post:Exit->St->Prop}(hP:Bl post (Fin UB Try.f70 0 [] (iv 20))):GoO UB (hU [55,76,86,96,103,127] (Hz q) (cK q)) 0 (zC (zC (zB Try.f70) 0) 0) (zK (zC (zB Try.f70) 0) 0) (DH q) post:=CL (σ:=[]) (fz:=[]) (by kernel_rfl) (aj (al (aj (al t3) (aj h1 (aj (u2 s2) (aj (u2 (u2 (aj (k2 (aj h2 h3)) (u2 (u2 (aj (k2 (aj h4 h5)) (u2 s2))))))) (aj (u2 (u2 (u2 (ag h6 (ag h6 (aj (aj h6 t3) (ag h6 (u2 (ag h7 (ag h7 (aj (aj h7 t3) (ag h7 (u2 (ag h8 (ag h8 (ag h8 (ag h9 (ag h9 (ag h9 (aj (aj h9 (k2 (aj h2 h3))) (ag h9 (ag h9 (ag h9 (aj (aj h9 (k2 (aj h10 h11))) (ag h9 (aj (aj h9 t3) (aj (aj h8 (aj h9 t2)) (al (aj h8 t2))))))))))))))))))))))))))))) (aj h12 s2))))))) t2) hP
theorem cgr_4(q:QK)(h1:(decide (iN q.i<iN q.r.length)=true))(h2:(0<=iN q.a))(h3:((gL q.g)[(iN q.a).toNat]?=some (UA (Uu iv q.r))))(h4:(0<=iN q.i))(h5:((Uu iv q.r)[(iN q.i).toNat]?=some (iv q.e)))(h6:(decide (q.e<0)=false))(h7:(decide (iN q.g.length<=q.e)=false))(h8:((q.e==iN q.a)=false))(h9:(decide (0<iN q.i)=true))(h10:(0<=i64.wrap (iN q.i-1)))(h11:((Uu iv q.r)[(i64.wrap (iN q.i-1)).toNat]?=some (iv (q.p.getD 0 0))))(h12:(decide (q.e<=q.p.getD 0 0)=false)){post:Exit->St->Prop}{R:St->Prop}(hR:∀st,Ren 0 st (St.mk 88 [(0,UA (gL q.g)),(1,UA (boL q.s)),(2,iv q.x),(3,iv q.y),(9,iv (iN q.g.length)),(10,iv (iN q.a)),(17,iv (iN q.g.length)),(18,iv (iN q.a)),(25,iv (iN q.r.length)),(26,iv (i64.wrap (iN q.i+1)))] [])->R st):GoP UB (hU [55,76,86,96,103,126] (Hz q) (cK q)) 0 (zC (zC (zB Try.f70) 0) 0) (DH q) (andThen R post):=zN (σ:=[]) (fz:=[]) (vars:=[0,1,2,3,9,10,17,18,25,26]) (by kernel_rfl) (aj (aj (al t3) (aj h1 (aj (u2 s2) (aj (u2 (u2 (aj (k2 (aj h2 h3)) (u2 (u2 (aj (k2 (aj h4 h5)) (u2 s2))))))) (aj (u2 (u2 (u2 (ag h6 (ag h6 (aj (aj h6 t3) (ag h6 (u2 (ag h7 (ag h7 (aj (aj h7 t3) (ag h7 (u2 (ag h8 (ag h8 (ag h8 (ag h9 (ag h9 (ag h9 (aj (aj h9 (k2 (aj h2 h3))) (ag h9 (ag h9 (ag h9 (aj (aj h9 (k2 (aj h10 h11))) (ag h9 (aj (aj h9 t3) (aj (aj h8 (aj h9 t2)) (al (aj h8 t2))))))))))))))))))))))))))))) (aj h12 (al (u2 s2)))))))) (k2 t9)) hR
theorem cgr_5(q:QK)(h1:(decide (iN q.i<iN q.r.length)=true))(h2:(0<=iN q.a))(h3:((gL q.g)[(iN q.a).toNat]?=some (UA (Uu iv q.r))))(h4:(0<=iN q.i))(h5:((Uu iv q.r)[(iN q.i).toNat]?=some (iv q.e)))(h6:(decide (q.e<0)=false))(h7:(decide (iN q.g.length<=q.e)=false))(h8:((q.e==iN q.a)=false))(h9:(decide (0<iN q.i)=false)){post:Exit->St->Prop}{R:St->Prop}(hR:∀st,Ren 0 st (St.mk 88 [(0,UA (gL q.g)),(1,UA (boL q.s)),(2,iv q.x),(3,iv q.y),(9,iv (iN q.g.length)),(10,iv (iN q.a)),(17,iv (iN q.g.length)),(18,iv (iN q.a)),(25,iv (iN q.r.length)),(26,iv (i64.wrap (iN q.i+1)))] [])->R st):GoP UB (hU [55,76,86,96,102] (Hz q) (cK q)) 0 (zC (zC (zB Try.f70) 0) 0) (DH q) (andThen R post):=zN (σ:=[]) (fz:=[]) (vars:=[0,1,2,3,9,10,17,18,25,26]) (by kernel_rfl) (aj (aj (al t3) (aj h1 (aj (u2 s2) (aj (u2 (u2 (aj (k2 (aj h2 h3)) (u2 (u2 (aj (k2 (aj h4 h5)) (u2 s2))))))) (aj (u2 (u2 (u2 (ag h6 (ag h6 (aj (aj h6 t3) (ag h6 (u2 (ag h7 (ag h7 (aj (aj h7 t3) (ag h7 (u2 (ag h8 (ag h8 (ag h8 (aj h9 (aj h9 (aj h9 (aj h9 (aj h9 (aj h9 (aj h9 (aj h9 (aj h9 (aj h9 (aj (aj h8 (aj h9 t2)) (al (aj h8 t2))))))))))))))))))))))))))))) (ak (al (u2 s2)))))))) (k2 t9)) hR
theorem va_0(q:QK)(h1:(decide (24<iN (gL q.g).length)=true)):GoP UB (hU [17] (e40 q) (cV q)) 0 (zB Try.f145) (st40 q) (Fin UB Try.f145 0 [] (AV.bool false)):=zF (σ:=[]) (fz:=[]) (by kernel_rfl) (aj (u2 (aj (u2 (u2 s2)) (aj h1 s2))) t2)
theorem va_1(q:QK)(h1:(decide (24<iN (gL q.g).length)=false)){post:Exit->St->Prop}(ht:T UB 0 (.loop (zC (zB Try.f145) 0)) (St.mk 60 [(0,UA (gL q.g)),(3,iv 0)] []) (TK UB 0 post (zK (zB Try.f145) 0))):GoP UB (hU [16] (e40 q) (cV q)) 0 (zB Try.f145) (st40 q) post:=zR (σ:=[]) (fz:=[]) (vars:=[0,3]) (by kernel_rfl) (aj (u2 (aj (u2 (u2 s2)) (aj h1 s2))) t3) ht
theorem vax_0(q:QK)(h1:(decide (iN q.a<iN (gL q.g).length)=false)):GoO UB (hU [24] (e40 q) (cV q)) 0 (zC (zB Try.f145) 0) (zK (zB Try.f145) 0) (Kz q) (Fin UB Try.f145 0 [] (AV.bool true)):=zF (σ:=[]) (fz:=[]) (by kernel_rfl) (aj (aj (aj (u2 (u2 (u2 (al t3)))) (al h1)) s2) t2)
theorem vai_0(q:QK)(h1:(decide (iN q.a<iN (gL q.g).length)=true)){post:Exit->St->Prop}(ht:T UB 0 (.loop (zC (zC (zB Try.f145) 0) 0)) (St.mk 60 [(0,UA (gL q.g)),(3,iv (iN q.a)),(4,iv 0)] []) (TK UB 0 post (zK (zC (zB Try.f145) 0) 0))):GoP UB (hU [25] (e40 q) (cV q)) 0 (zC (zB Try.f145) 0) (Kz q) post:=zR (σ:=[]) (fz:=[]) (vars:=[0,3,4]) (by kernel_rfl) (aj (aj (u2 (u2 (u2 (al t3)))) (aj h1 s2)) t4) ht
theorem vbx_0(q:QK)(h1:(0<=iN q.a))(h2:((gL q.g)[(iN q.a).toNat]?=some (UA (Uu iv q.r))))(h3:(decide (iN q.i<iN (Uu iv q.r).length)=false)){post:Exit->St->Prop}{R:St->Prop}(hR:∀st,Ren 0 st (St.mk 60 [(0,UA (gL q.g)),(3,iv (i64.wrap (iN q.a+1)))] [])->R st):GoO UB (hU [42] (e40 q) (cV q)) 0 (zC (zC (zB Try.f145) 0) 0) (zK (zC (zB Try.f145) 0) 0) (DS q) (andThen R post):=zN (σ:=[]) (fz:=[]) (vars:=[0,3]) (by kernel_rfl) (aj (aj (aj (u2 (u2 (u2 (aj (k2 (aj h1 h2)) (u2 (u2 (al t3))))))) (al h3)) (al (u2 (u2 s2)))) t3) hR
theorem vbr_0(q:QK)(h1:(0<=iN q.a))(h2:((gL q.g)[(iN q.a).toNat]?=some (UA (Uu iv q.r))))(h3:(decide (iN q.i<iN (Uu iv q.r).length)=true))(h4:(0<=iN q.i))(h5:((Uu iv q.r)[(iN q.i).toNat]?=some (iv q.e)))(h6:(decide (q.e<0)=true)){post:Exit->St->Prop}(hP:Bl post (Fin UB Try.f145 0 [] (AV.bool false))):GoO UB (hU [43,67] (e40 q) (cV q)) 0 (zC (zC (zB Try.f145) 0) 0) (zK (zC (zB Try.f145) 0) 0) (DS q) post:=CL (σ:=[]) (fz:=[]) (by kernel_rfl) (aj (al (aj (u2 (u2 (u2 (aj (k2 (aj h1 h2)) (u2 (u2 (al t3))))))) (aj h3 (aj (u2 (u2 (aj (k2 (aj h1 h2)) (u2 (u2 (aj (k2 (aj h4 h5)) (u2 s2))))))) (aj (u2 (u2 (u2 (aj h6 (aj h6 (aj h6 (aj h6 (ag h6 (u2 (k3 (aj t3 (u2 (ak (k3 (k5 (k5 (al t3))))))))))))))))) (ak s2)))))) t2) hP
theorem vbr_1(q:QK)(h1:(0<=iN q.a))(h2:((gL q.g)[(iN q.a).toNat]?=some (UA (Uu iv q.r))))(h3:(decide (iN q.i<iN (Uu iv q.r).length)=true))(h4:(0<=iN q.i))(h5:((Uu iv q.r)[(iN q.i).toNat]?=some (iv q.e)))(h6:(decide (q.e<0)=false))(h7:(decide (iN (gL q.g).length<=q.e)=true)){post:Exit->St->Prop}(hP:Bl post (Fin UB Try.f145 0 [] (AV.bool false))):GoO UB (hU [43,66,79] (e40 q) (cV q)) 0 (zC (zC (zB Try.f145) 0) 0) (zK (zC (zB Try.f145) 0) 0) (DS q) post:=CL (σ:=[]) (fz:=[]) (by kernel_rfl) (aj (al (aj (u2 (u2 (u2 (aj (k2 (aj h1 h2)) (u2 (u2 (al t3))))))) (aj h3 (aj (u2 (u2 (aj (k2 (aj h1 h2)) (u2 (u2 (aj (k2 (aj h4 h5)) (u2 s2))))))) (aj (u2 (u2 (u2 (ag h6 (ag h6 (ag h6 (aj (aj h6 t3) (ag h6 (u2 (aj h7 (aj h7 (aj h7 (ag h7 (u2 (ak (k3 (k5 (k5 (al t3))))))))))))))))))) (ak s2)))))) t2) hP
theorem vbr_2(q:QK)(h1:(0<=iN q.a))(h2:((gL q.g)[(iN q.a).toNat]?=some (UA (Uu iv q.r))))(h3:(decide (iN q.i<iN (Uu iv q.r).length)=true))(h4:(0<=iN q.i))(h5:((Uu iv q.r)[(iN q.i).toNat]?=some (iv q.e)))(h6:(decide (q.e<0)=false))(h7:(decide (iN (gL q.g).length<=q.e)=false))(h8:((q.e==iN q.a)=true)){post:Exit->St->Prop}(hP:Bl post (Fin UB Try.f145 0 [] (AV.bool false))):GoO UB (hU [43,66,78,89] (e40 q) (cV q)) 0 (zC (zC (zB Try.f145) 0) 0) (zK (zC (zB Try.f145) 0) 0) (DS q) post:=CL (σ:=[]) (fz:=[]) (by kernel_rfl) (aj (al (aj (u2 (u2 (u2 (aj (k2 (aj h1 h2)) (u2 (u2 (al t3))))))) (aj h3 (aj (u2 (u2 (aj (k2 (aj h1 h2)) (u2 (u2 (aj (k2 (aj h4 h5)) (u2 s2))))))) (aj (u2 (u2 (u2 (ag h6 (ag h6 (ag h6 (aj (aj h6 t3) (ag h6 (u2 (ag h7 (ag h7 (aj (aj h7 t3) (ag h7 (u2 (aj h8 (aj h8 (aj h8 (k5 (k5 (aj h8 (al (aj h8 t2)))))))))))))))))))))) (ak s2)))))) t2) hP
theorem vbr_3(q:QK)(h1:(0<=iN q.a))(h2:((gL q.g)[(iN q.a).toNat]?=some (UA (Uu iv q.r))))(h3:(decide (iN q.i<iN (Uu iv q.r).length)=true))(h4:(0<=iN q.i))(h5:((Uu iv q.r)[(iN q.i).toNat]?=some (iv q.e)))(h6:(decide (q.e<0)=false))(h7:(decide (iN (gL q.g).length<=q.e)=false))(h8:((q.e==iN q.a)=false))(h9:(decide (0<iN q.i)=true))(h10:(0<=i64.wrap (iN q.i-1)))(h11:((Uu iv q.r)[(i64.wrap (iN q.i-1)).toNat]?=some (iv (q.p.getD 0 0))))(h12:(decide (q.e<=q.p.getD 0 0)=true)){post:Exit->St->Prop}(hP:Bl post (Fin UB Try.f145 0 [] (AV.bool false))):GoO UB (hU [43,66,78,88,95,119] (e40 q) (cV q)) 0 (zC (zC (zB Try.f145) 0) 0) (zK (zC (zB Try.f145) 0) 0) (DS q) post:=CL (σ:=[]) (fz:=[]) (by kernel_rfl) (aj (al (aj (u2 (u2 (u2 (aj (k2 (aj h1 h2)) (u2 (u2 (al t3))))))) (aj h3 (aj (u2 (u2 (aj (k2 (aj h1 h2)) (u2 (u2 (aj (k2 (aj h4 h5)) (u2 s2))))))) (aj (u2 (u2 (u2 (ag h6 (ag h6 (ag h6 (aj (aj h6 t3) (ag h6 (u2 (ag h7 (ag h7 (aj (aj h7 t3) (ag h7 (u2 (ag h8 (ag h8 (ag h8 (ag h9 (ag h9 (ag h9 (aj (aj h9 (k2 (aj h1 h2))) (ag h9 (ag h9 (ag h9 (aj (aj h9 (k2 (aj h10 h11))) (ag h9 (aj (aj h9 t3) (aj (aj h8 (aj h9 t2)) (al (aj h8 t2)))))))))))))))))))))))))))))) (aj h12 s2)))))) t2) hP
theorem vbr_4(q:QK)(h1:(0<=iN q.a))(h2:((gL q.g)[(iN q.a).toNat]?=some (UA (Uu iv q.r))))(h3:(decide (iN q.i<iN (Uu iv q.r).length)=true))(h4:(0<=iN q.i))(h5:((Uu iv q.r)[(iN q.i).toNat]?=some (iv q.e)))(h6:(decide (q.e<0)=false))(h7:(decide (iN (gL q.g).length<=q.e)=false))(h8:((q.e==iN q.a)=false))(h9:(decide (0<iN q.i)=true))(h10:(0<=i64.wrap (iN q.i-1)))(h11:((Uu iv q.r)[(i64.wrap (iN q.i-1)).toNat]?=some (iv (q.p.getD 0 0))))(h12:(decide (q.e<=q.p.getD 0 0)=false)){post:Exit->St->Prop}{R:St->Prop}(hR:∀st,Ren 0 st (St.mk 60 [(0,UA (gL q.g)),(3,iv (iN q.a)),(4,iv (i64.wrap (iN q.i+1)))] [])->R st):GoP UB (hU [43,66,78,88,95,118] (e40 q) (cV q)) 0 (zC (zC (zB Try.f145) 0) 0) (DS q) (andThen R post):=zN (σ:=[]) (fz:=[]) (vars:=[0,3,4]) (by kernel_rfl) (aj (aj (u2 (u2 (u2 (aj (k2 (aj h1 h2)) (u2 (u2 (al t3))))))) (aj h3 (aj (u2 (u2 (aj (k2 (aj h1 h2)) (u2 (u2 (aj (k2 (aj h4 h5)) (u2 s2))))))) (aj (u2 (u2 (u2 (ag h6 (ag h6 (ag h6 (aj (aj h6 t3) (ag h6 (u2 (ag h7 (ag h7 (aj (aj h7 t3) (ag h7 (u2 (ag h8 (ag h8 (ag h8 (ag h9 (ag h9 (ag h9 (aj (aj h9 (k2 (aj h1 h2))) (ag h9 (ag h9 (ag h9 (aj (aj h9 (k2 (aj h10 h11))) (ag h9 (aj (aj h9 t3) (aj (aj h8 (aj h9 t2)) (al (aj h8 t2)))))))))))))))))))))))))))))) (aj h12 (al (u2 (u2 s2)))))))) t4) hR
theorem vbr_5(q:QK)(h1:(0<=iN q.a))(h2:((gL q.g)[(iN q.a).toNat]?=some (UA (Uu iv q.r))))(h3:(decide (iN q.i<iN (Uu iv q.r).length)=true))(h4:(0<=iN q.i))(h5:((Uu iv q.r)[(iN q.i).toNat]?=some (iv q.e)))(h6:(decide (q.e<0)=false))(h7:(decide (iN (gL q.g).length<=q.e)=false))(h8:((q.e==iN q.a)=false))(h9:(decide (0<iN q.i)=false)){post:Exit->St->Prop}{R:St->Prop}(hR:∀st,Ren 0 st (St.mk 60 [(0,UA (gL q.g)),(3,iv (iN q.a)),(4,iv (i64.wrap (iN q.i+1)))] [])->R st):GoP UB (hU [43,66,78,88,94] (e40 q) (cV q)) 0 (zC (zC (zB Try.f145) 0) 0) (DS q) (andThen R post):=zN (σ:=[]) (fz:=[]) (vars:=[0,3,4]) (by kernel_rfl) (aj (aj (u2 (u2 (u2 (aj (k2 (aj h1 h2)) (u2 (u2 (al t3))))))) (aj h3 (aj (u2 (u2 (aj (k2 (aj h1 h2)) (u2 (u2 (aj (k2 (aj h4 h5)) (u2 s2))))))) (aj (u2 (u2 (u2 (ag h6 (ag h6 (ag h6 (aj (aj h6 t3) (ag h6 (u2 (ag h7 (ag h7 (aj (aj h7 t3) (ag h7 (u2 (ag h8 (ag h8 (ag h8 (aj h9 (aj h9 (aj h9 (aj h9 (aj h9 (aj h9 (aj h9 (aj h9 (aj h9 (aj h9 (aj (aj h8 (aj h9 t2)) (al (aj h8 t2)))))))))))))))))))))))))))))) (ak (al (u2 (u2 s2)))))))) t4) hR
theorem vc_0(q:QK)(h1:(CT UB 145 [] [UA (gL q.g)] [] (AV.bool q.b)))(h2:((!q.b)=true)):GoP UB (hU [15] (eK q) (cV q)) 0 (zB Try.f134) (st35 q) (Fin UB Try.f134 0 [] (iv 20)):=zF (σ:=[]) (fz:=[]) (by kernel_rfl) (aj (u2 (aj (u2 (aj (k2 (al h1)) s2)) (aj h2 s2))) t2)
theorem vc_1(q:QK)(h1:(CT UB 145 [] [UA (gL q.g)] [] (AV.bool q.b)))(h2:((!q.b)=false))(h3:((iN (boL q.s).length != iN (gL q.g).length)=true)):GoP UB (hU [14,25] (eK q) (cV q)) 0 (zB Try.f134) (st35 q) (Fin UB Try.f134 0 [] (iv 19)):=zF (σ:=[]) (fz:=[]) (by kernel_rfl) (aj (u2 (aj (u2 (aj (k2 (al h1)) s2)) (aj h2 (aj (u2 (u2 (u2 (u2 (al t3))))) (aj h3 s2))))) t2)
theorem vc_2(q:QK)(h1:(CT UB 145 [] [UA (gL q.g)] [] (AV.bool q.b)))(h2:((!q.b)=false))(h3:((iN (boL q.s).length != iN (gL q.g).length)=false)):GoP UB (hU [14,24] (eK q) (cV q)) 0 (zB Try.f134) (st35 q) (Fin UB Try.f134 0 [] (iv 0)):=zF (σ:=[]) (fz:=[]) (by kernel_rfl) (aj (u2 (aj (u2 (aj (k2 (al h1)) s2)) (aj h2 (aj (u2 (u2 (u2 (u2 (al t3))))) (aj h3 s2))))) t2)
end Go.Proofs.Ytedjkebooffjpaa
set_option linter.unusedSimpArgs false
namespace Go.Proofs.Ytedjkebooffjpaa
def AK(r:List Int)(n v i:Nat):Bool:=decide (r.getD i 0<0)||(decide ((n:Int)<=r.getD i 0)||(r.getD i 0==(v:Int)||(decide (0<i)&&decide (r.getD i 0<=r.getD (i-1) 0))))
def Cz(g:List (List Int))(v:Nat):Bool:=(fnd (AK (g.getD v []) g.length v) 0 (g.getD v []).length).isSome
def Ds(g:List (List Int)):Bool:=(fnd (Cz g) 0 g.length).isSome
def C2(g:List (List Int))(s:List Bool)(v w:Int):Int:=if 24<g.length then 20 else if Ds g=true then 20 else if s.length≠g.length\/v<0\/(g.length:Int)<=v\/w<0\/(g.length:Int)<=w then 19 else 0
def Rows(g:List (List Int)):Prop:=∀v,v<g.length->(g.getD v []).length<=9223372036854775807
def qv(g:List (List Int))(s:List Bool)(v w:Int)(a i:Nat)(r:List Int)(e p:Int):QK:=⟨g,s,[],0,0,a,i,r,v,w,false,e,[p],[]⟩
theorem cg_run{g:List (List Int)}{s:List Bool}(hrw:Rows g)(hn:g.length<=24)(v w:Int)(a:Nat)(ha:a<g.length){R:St->Prop}{post:Exit->St->Prop}
  (hy:Cz g a=true->Bl post (Fin UB Try.f70 0 [] (.int .i64 20)))
  (hR:Cz g a=false->∀st,Ren 0 st (Er (qk g s v w (a+1) 0 []))->R st):
  T UB 0 (.loop (zC (zC (zB Try.f70) 0) 0)) (DH (qk g s v w a 0 (g.getD a []))) (TK UB 0 (andThen R post) (zK (zC (zB Try.f70) 0) 0)):=by
 have hr1:=hrw a ha;have hrow:=CX ha;unfold Cz at hy hR;generalize g.getD a []=r at hr1 hrow hy hR;generalize hrr:fnd (AK r g.length a) 0 r.length=res at hy hR;refine T.loop (fun i:Nat=>DH (qk g s v w a i r)) (fun i=>i<=r.length/\fnd (AK r g.length a) i (r.length-i)=res) (fun i=>r.length+1-i) 0 ⟨TJ _,hrr⟩ ?_
 rintro i ⟨hi,hf⟩
 by_cases h:i<r.length
 .rw[CV h] at hf;have hg1:=Bu h;have dk:decide (iN i<iN r.length)=true:=TD (by simp only[iN];omega);have found:AK r g.length a i=true->Bl (andThen R post) (Fin UB Try.f70 0 [] (.int .i64 20)):=by intro hb;simp only[hb] at hf;subst hf;exact hy rfl
  have next:AK r g.length a i=false->∀st,Ren 0 st (DH (qk g s v w a (i+1) r))->∃j,Ren 0 st (DH (qk g s v w a j r))/\(j<=r.length/\fnd (AK r g.length a) j (r.length-j)=res)/\r.length+1-j<r.length+1-i:=by intro hb st hst;simp only[hb] at hf;exact⟨i+1,hst,⟨h,hf⟩,by omega⟩
  have wi:i64.wrap (iN i+1)=((i+1:Nat):Int):=zW i (by omega);by_cases b1:r.getD i 0<0
  .exact T.out mix (cgr_0 (qv g s v w a i r (r.getD i 0) 0) dk (by simp[iN]) hrow (by simp[iN]) hg1 (TD b1) (found (by unfold AK;rw[TD b1];simp)))
  .by_cases b2:(g.length:Int)<=r.getD i 0
   .exact T.out mix (cgr_1 (qv g s v w a i r (r.getD i 0) 0) dk (by simp[iN]) hrow (by simp[iN]) hg1 (TC b1) (TD b2) (found (by unfold AK;rw[TD b2];simp)))
   .by_cases b3:(r.getD i 0==(a:Int))=true
    .exact T.out mix (cgr_2 (qv g s v w a i r (r.getD i 0) 0) dk (by simp[iN]) hrow (by simp[iN]) hg1 (TC b1) (TC b2) b3 (found (by unfold AK;rw[b3];simp)))
    .have b3':=Uk.2 b3;by_cases b4:0<i
     .have hw:=FM i b4 (by omega);have hp:=Bu (l:=r) (j:=i-1) (by omega);by_cases b5:r.getD i 0<=r.getD (i-1) 0
      .exact T.out mix (cgr_3 (qv g s v w a i r (r.getD i 0) (r.getD (i-1) 0)) dk (by simp[iN]) hrow (by simp[iN]) hg1 (TC b1) (TC b2) b3' (TD (by simp only[iN,qv];omega)) (by simp only[iN,qv,hw];omega) (by simp only[iN,qv,hw,TG];exact hp) (TD b5) (found (by unfold AK;rw[TD b4,TD b5];simp)))
      .refine T.path mix (cgr_4 (qv g s v w a i r (r.getD i 0) (r.getD (i-1) 0)) dk (by simp[iN]) hrow (by simp[iN]) hg1 (TC b1) (TC b2) b3' (TD (by simp only[iN,qv];omega)) (by simp only[iN,qv,hw];omega) (by simp only[iN,qv,hw,TG];exact hp) (TC b5) ?_);intro st hst;simp only[qv,wi] at hst;exact next (by unfold AK;rw[TC b1,TC b2,b3',TC b5];simp) st hst
     .refine T.path mix (cgr_5 (qv g s v w a i r (r.getD i 0) 0) dk (by simp[iN]) hrow (by simp[iN]) hg1 (TC b1) (TC b2) b3' (TC (by simp only[iN,qv];omega)) ?_);intro st hst;simp only[qv,wi] at hst;exact next (by unfold AK;rw[TC b1,TC b2,b3',TC b4];simp) st hst
 .rw[C1 h] at hf;subst hf;refine T.out mix (ckbx_0 (qk g s v w a i r) (TC (by simp only[iN,qk];omega)) ?_);intro st hst;simp only[iN,qk,zW a (show a<9223372036854775807 by omega)] at hst;exact hR rfl st hst
theorem Rd{g:List (List Int)}{s:List Bool}(hrw:Rows g)(v w:Int):CT UB 70 [] [.lst (gL g),.lst (boL s),.int .i64 v,.int .i64 w] [] (.int .i64 (C2 g s v w)):=by
 have hl:=BD g;have hbl:=CB s;unfold C2;by_cases h24:24<g.length
 .rw[Tv h24];exact CT.path mix Try.func70 (show Try.f70.body=some (zB Try.f70) by kernel_rfl) (nL rfl) (ckb_0 (qk g s v w 0 0 []) (TD (by simp only[iN,qk,hl];omega)))
 rw[Tw h24];refine CT.path mix Try.func70 (show Try.f70.body=some (zB Try.f70) by kernel_rfl) (nL rfl) (ck_0 (qk g s v w 0 0 []) (TC (by simp only[iN,qk,hl];omega)) ?_);simp only[qk,hl];unfold Ds;generalize hrr:fnd (Cz g) 0 g.length=res;refine T.loop (fun a:Nat=>Er (qk g s v w a 0 [])) (fun a=>a<=g.length/\fnd (Cz g) a (g.length-a)=res) (fun a=>g.length+1-a) 0 ⟨TJ _,hrr⟩ ?_
 rintro a ⟨ha,hf⟩
 by_cases h:a<g.length
 .rw[CV h] at hf;refine T.path mix (cka_0 (qk g s v w a 0 (g.getD a [])) (TD (by simp only[iN,qk];omega)) (by simp[iN]) (CX h) ?_);simp only[qk,BV];refine cg_run hrw (by omega) v w a h (fun hb=>?_) (fun hb st hst=>?_)
  .simp only[hb] at hf;subst hf;exact fun st hst=>TK.ret hst _
  .simp only[hb] at hf;exact⟨a+1,hst,⟨h,hf⟩,by omega⟩
 .rw[C1 h] at hf;subst hf;have da:decide (iN a<iN g.length)=false:=TC (by simp only[iN];omega);simp only[Option.isSome_none,Bool.false_eq_true,if_false];by_cases c1:s.length=g.length
  .have e1:(iN (boL s).length != iN g.length)=false:=by simp[iN,hbl,c1]
   by_cases c2:v<0
   .rw[Tv (.inr (.inl c2))];exact T.out mix (ckx_1 (qk g s v w a 0 []) da e1 (TD c2))
   .by_cases c3:(g.length:Int)<=v
    .rw[Tv (.inr (.inr (.inl c3)))];exact T.out mix (ckx_2 (qk g s v w a 0 []) da e1 (TC c2) (TD c3))
    .by_cases c4:w<0
     .rw[Tv (.inr (.inr (.inr (.inl c4))))];exact T.out mix (ckx_3 (qk g s v w a 0 []) da e1 (TC c2) (TC c3) (TD c4))
     .by_cases c5:(g.length:Int)<=w
      .rw[Tv (.inr (.inr (.inr (.inr c5))))];exact T.out mix (ckx_4 (qk g s v w a 0 []) da e1 (TC c2) (TC c3) (TC c4) (TD c5))
      .rw[Tw (by rintro(h | h | h | h | h)<;>first | exact h c1 | exact c2 h | exact c3 h | exact c4 h | exact c5 h)];exact T.out mix (ckx_5 (qk g s v w a 0 []) da e1 (TC c2) (TC c3) (TC c4) (TC c5))
  .rw[Tv (.inl c1)];exact T.out mix (ckx_0 (qk g s v w a 0 []) da (by simp only[iN,qk,hbl,Ul,ne_eq];omega))
theorem vb_run{g:List (List Int)}(hrw:Rows g)(hn:g.length<=24)(a:Nat)(ha:a<g.length){R:St->Prop}{post:Exit->St->Prop}
  (hy:Cz g a=true->Bl post (Fin UB Try.f145 0 [] (.bool false)))
  (hR:Cz g a=false->∀st,Ren 0 st (Kz (qv g [] 0 0 (a+1) 0 [] 0 0))->R st):
  T UB 0 (.loop (zC (zC (zB Try.f145) 0) 0)) (DS (qv g [] 0 0 a 0 (g.getD a []) 0 0)) (TK UB 0 (andThen R post) (zK (zC (zB Try.f145) 0) 0)):=by
 have hr1:=hrw a ha;have hrow:=CX ha;have hl:=BD g;unfold Cz at hy hR;generalize g.getD a []=r at hr1 hrow hy hR;have hrl:=BV r;generalize hrr:fnd (AK r g.length a) 0 r.length=res at hy hR;refine T.loop (fun i:Nat=>DS (qv g [] 0 0 a i r 0 0)) (fun i=>i<=r.length/\fnd (AK r g.length a) i (r.length-i)=res) (fun i=>r.length+1-i) 0 ⟨TJ _,hrr⟩ ?_
 rintro i ⟨hi,hf⟩
 by_cases h:i<r.length
 .rw[CV h] at hf;have hg1:=Bu h;have dk:decide (iN i<iN (r.map (AV.int .i64)).length)=true:=TD (by simp only[iN,hrl];omega);have found:AK r g.length a i=true->Bl (andThen R post) (Fin UB Try.f145 0 [] (.bool false)):=by intro hb;simp only[hb] at hf;subst hf;exact hy rfl
  have next:AK r g.length a i=false->∀st,Ren 0 st (DS (qv g [] 0 0 a (i+1) r 0 0))->∃j,Ren 0 st (DS (qv g [] 0 0 a j r 0 0))/\(j<=r.length/\fnd (AK r g.length a) j (r.length-j)=res)/\r.length+1-j<r.length+1-i:=by intro hb st hst;simp only[hb] at hf;exact⟨i+1,hst,⟨h,hf⟩,by omega⟩
  have wi:i64.wrap (iN i+1)=((i+1:Nat):Int):=zW i (by omega);by_cases b1:r.getD i 0<0
  .exact T.out mix (vbr_0 (qv g [] 0 0 a i r (r.getD i 0) 0) (by simp[iN]) hrow dk (by simp[iN]) hg1 (TD b1) (found (by unfold AK;rw[TD b1];simp)))
  .by_cases b2:(g.length:Int)<=r.getD i 0
   .exact T.out mix (vbr_1 (qv g [] 0 0 a i r (r.getD i 0) 0) (by simp[iN]) hrow dk (by simp[iN]) hg1 (TC b1) (TD (by simp only[iN,qv,hl];exact b2)) (found (by unfold AK;rw[TD b2];simp)))
   .by_cases b3:(r.getD i 0==(a:Int))=true
    .exact T.out mix (vbr_2 (qv g [] 0 0 a i r (r.getD i 0) 0) (by simp[iN]) hrow dk (by simp[iN]) hg1 (TC b1) (TC (by simp only[iN,qv,hl];exact b2)) b3 (found (by unfold AK;rw[b3];simp)))
    .have b3':=Uk.2 b3;by_cases b4:0<i
     .have hw:=FM i b4 (by omega);have hp:=Bu (l:=r) (j:=i-1) (by omega);by_cases b5:r.getD i 0<=r.getD (i-1) 0
      .exact T.out mix (vbr_3 (qv g [] 0 0 a i r (r.getD i 0) (r.getD (i-1) 0)) (by simp[iN]) hrow dk (by simp[iN]) hg1 (TC b1) (TC (by simp only[iN,qv,hl];exact b2)) b3' (TD (by simp only[iN,qv];omega)) (by simp only[iN,qv,hw];omega) (by simp only[iN,qv,hw,TG];exact hp) (TD b5) (found (by unfold AK;rw[TD b4,TD b5];simp)))
      .refine T.path mix (vbr_4 (qv g [] 0 0 a i r (r.getD i 0) (r.getD (i-1) 0)) (by simp[iN]) hrow dk (by simp[iN]) hg1 (TC b1) (TC (by simp only[iN,qv,hl];exact b2)) b3' (TD (by simp only[iN,qv];omega)) (by simp only[iN,qv,hw];omega) (by simp only[iN,qv,hw,TG];exact hp) (TC b5) ?_);intro st hst;simp only[qv,wi] at hst;exact next (by unfold AK;rw[TC b1,TC b2,b3',TC b5];simp) st hst
     .refine T.path mix (vbr_5 (qv g [] 0 0 a i r (r.getD i 0) 0) (by simp[iN]) hrow dk (by simp[iN]) hg1 (TC b1) (TC (by simp only[iN,qv,hl];exact b2)) b3' (TC (by simp only[iN,qv];omega)) ?_);intro st hst;simp only[qv,wi] at hst;exact next (by unfold AK;rw[TC b1,TC b2,b3',TC b4];simp) st hst
 .rw[C1 h] at hf;subst hf;refine T.out mix (vbx_0 (qv g [] 0 0 a i r 0 0) (by simp[iN]) hrow (TC (by simp only[iN,qv,hrl];omega)) ?_);intro st hst;simp only[iN,qv,zW a (show a<9223372036854775807 by omega)] at hst;exact hR rfl st hst
def HQ(g:List (List Int)):Bool:= !(decide (24<g.length))&&!(Ds g)
theorem valid_ct{g:List (List Int)}(hrw:Rows g):CT UB 145 [] [.lst (gL g)] [] (.bool (HQ g)):=by
 have hl:=BD g;unfold HQ;by_cases h24:24<g.length
 .exact CT.pathS mix Try.func145 (show Try.f145.body=some (zB Try.f145) by kernel_rfl) (nL rfl) (va_0 (qv g [] 0 0 0 0 [] 0 0) (TD (by simp only[iN,qv,hl];omega))) (by simp[h24])
 refine CT.path mix Try.func145 (show Try.f145.body=some (zB Try.f145) by kernel_rfl) (nL rfl) (va_1 (qv g [] 0 0 0 0 [] 0 0) (TC (by simp only[iN,qv,hl];omega)) ?_);rw[TC h24];unfold Ds;generalize hrr:fnd (Cz g) 0 g.length=res;refine T.loop (fun a:Nat=>Kz (qv g [] 0 0 a 0 [] 0 0)) (fun a=>a<=g.length/\fnd (Cz g) a (g.length-a)=res) (fun a=>g.length+1-a) 0 ⟨TJ _,hrr⟩ ?_
 rintro a ⟨ha,hf⟩
 by_cases h:a<g.length
 .rw[CV h] at hf;refine T.path mix (vai_0 (qv g [] 0 0 a 0 (g.getD a []) 0 0) (TD (by simp only[iN,qv,hl];omega)) ?_);refine vb_run hrw (by omega) a h (fun hb=>?_) (fun hb st hst=>?_)
  .simp only[hb] at hf;subst hf;exact fun st hst=>TK.ret hst _
  .simp only[hb] at hf;exact⟨a+1,hst,⟨h,hf⟩,by omega⟩
 .rw[C1 h] at hf;subst hf;exact T.out mix (vax_0 (qv g [] 0 0 a 0 [] 0 0) (TC (by simp only[iN,qv,hl];omega)))
def DD(g:List (List Int))(s:List Bool):Int:=if 24<g.length then 20 else if Ds g=true then 20 else if s.length≠g.length then 19 else 0
theorem SG{g:List (List Int)}{s:List Bool}(hrw:Rows g):CT UB 134 [] [.lst (gL g),.lst (boL s)] [] (.int .i64 (DD g s)):=by
 have hl:=BD g;have hbl:=CB s;have hv:=valid_ct hrw;have hb:Try.f134.body=some (zB Try.f134):=by kernel_rfl
 have hn:[UA (gL g),.lst (boL s)].length<=Try.f134.ntmps:=nL rfl;unfold DD;by_cases h1:HQ g=true
 .have h1':=h1;unfold HQ at h1';simp only[TF,Uj,decide_eq_false_iff_not] at h1';rw[Tw h1'.1,Tw (by rw[h1'.2];simp)];rw[h1] at hv;by_cases h2:s.length=g.length
  .rw[Tw (by simp[h2])];exact CT.path mix Try.func134 hb hn (vc_2 ⟨g,s,[],0,0,0,0,[],0,0,true,0,[],[]⟩ hv rfl (by simp[iN,hl,hbl,h2]))
  .rw[Tv h2];exact CT.path mix Try.func134 hb hn (vc_1 ⟨g,s,[],0,0,0,0,[],0,0,true,0,[],[]⟩ hv rfl (by simp only[iN,hl,hbl,Ul,ne_eq];omega))
 .have h1:=Uk.2 h1;have e:(if 24<g.length then (20:Int) else if Ds g=true then 20 else if s.length≠g.length then 19 else 0)=20:=by
   by_cases h24:24<g.length
   .rw[Tv h24]
   .unfold HQ at h1;rw[TC h24] at h1;rw[Tw h24,Tv (by simpa using h1)]
  rw[e];rw[h1] at hv;exact CT.path mix Try.func134 hb hn (vc_0 ⟨g,s,[],0,0,0,0,[],0,0,false,0,[],[]⟩ hv rfl)
def st32(q:QK):St:={n:=Try.f143.ntmps,fr:=[(0,.lst (gL q.g)),(1,.lst (boL q.s)),(2,.int .i64 (iN q.v))],hp:=[]}
def Fh(q:QK):St:={n:=Try.f143.ntmps,fr:=[(0,.lst (gL q.g)),(7,lI q.d),(8,.sl 0 0 q.p.length),(9,.int .i64 (iN q.v))],hp:=[some (dB q.p)]}
def Fq(q:QK):St:={n:=Try.f143.ntmps,fr:=[(0,.lst (gL q.g)),(7,lI q.d),(8,.sl 0 0 q.p.length),(9,.int .i64 (iN q.v)),(10,.int .i64 (iN q.i-1))],hp:=[some (dB q.p)]}
def cW(q:QK):Nat->FuncId->List AV->List (Option Blk)->AG:=fun dst f args _=>match f with
 | 125=>.call [] [] [] (lI q.d)
 | 143=>.call [] [] [] (lI q.p)
 | 134=>.call [] [] [] (.int .i64 q.e)
 | 126=>.call [] [] [] (lI q.p)
 | 22=>.call [] [] [] (.bool true)
 | _=>.no
def e32(q:QK):List (Nat×AV):=[(30,lI q.r),(39,.int .i64 q.x),(47,lI q.r),(50,.int .i64 (iN q.w)),(54,.int .i64 q.y),(58,.int .i64 q.x)]
def st34(q:QK):St:={n:=Try.f126.ntmps,fr:=[(0,.lst (gL q.g)),(1,.lst (boL q.s)),(2,.int .i64 (iN q.v)),(3,.int .i64 (iN q.w))],hp:=[]}
def GN(q:QK):St:={n:=Try.f126.ntmps,fr:=[(2,.int .i64 (iN q.v)),(3,.int .i64 (iN q.w)),(9,lI q.p),(10,.sl 0 0 (q.i+1))],hp:=[some (dB q.r)]}
def e34(q:QK):List (Nat×AV):=[(16,.int .i64 q.x),(30,.int .i64 (iN q.a))]
theorem rh_0(q:QK)(h1:(CT UB 125 [] [UA (gL q.g),UA (boL q.s),iv (iN q.v)] [] (UA (Uu iv q.d))))(h2:(iN (gL q.g).length<=iN (gL q.g).length))(h3:(8 * iN (gL q.g).length<=281474976710656))(h4:(iN (gL q.g).length<=9223372036854775807)){post:Exit->St->Prop}(ht:T UB 0 (.loop (zC (zB Try.f143) 0)) (St.mk 67 [(0,UA (gL q.g)),(7,UA (Uu iv q.d)),(8,AV.sl 0 0 (gL q.g).length),(9,iv 0)] [some (Blk.mk (List.replicate (gL q.g).length (iv 0)) 1 true true none)]) (TK UB 0 post (zK (zB Try.f143) 0))):GoP UB (hU [] (e32 q) (cW q)) 0 (zB Try.f143) (st32 q) post:=zR (σ:=[0]) (fz:=[]) (vars:=[0,7,8,9]) (by kernel_rfl) (aj (u2 (aj (u2 (u2 (u2 (aj (ak (k5 (al h1))) s2)))) (aj (u2 (u2 (aj (k2 (aj (show(0<=iN (gL q.g).length) from(Int.natCast_nonneg _)) (aj h2 (aj h3 h4)))) s2))) s2))) t6) ht
theorem rhx_0(q:QK)(h1:(decide (iN q.v<iN (gL q.g).length)=false))(h2:(q.p.length=(Uu iv q.p).length)):GoO UB (hU [44] (e32 q) (cW q)) 0 (zC (zB Try.f143) 0) (zK (zB Try.f143) 0) (Fh q) (Fin UB Try.f143 0 [] (UA (Uu iv q.p))):=zF (σ:=[]) (fz:=[0]) (by kernel_rfl) (aj (aj (aj (u2 (u2 (u2 (al t3)))) (al h1)) (al (u2 s2))) (al h2))
theorem rhi_0(q:QK)(h1:(decide (iN q.v<iN (gL q.g).length)=true))(h2:(0<=iN q.v))(h3:(iN q.v<iN q.p.length))(h4:((0+(iN q.v).toNat).succ.le (Uu iv q.p).length))(h5:((gL q.g)[(iN q.v).toNat]?=some (UA (Uu iv q.r)))){post:Exit->St->Prop}(ht:T UB 0 (.loop (zC (zC (zB Try.f143) 0) 0)) (St.mk 67 [(0,UA (gL q.g)),(7,UA (Uu iv q.d)),(8,AV.sl 0 0 q.p.length),(9,iv (iN q.v)),(10,iv (i64.wrap (iN (Uu iv q.r).length-1)))] [some (Blk.mk ((Uu iv q.p).set (0+(iN q.v).toNat) (iv (-1))) 1 true true none)]) (TK UB 0 post (zK (zC (zB Try.f143) 0) 0))):GoP UB (hU [45] (e32 q) (cW q)) 0 (zC (zB Try.f143) 0) (Fh q) post:=zR (σ:=[0]) (fz:=[]) (vars:=[0,7,8,9,10]) (by kernel_rfl) (aj (aj (u2 (u2 (u2 (al t3)))) (aj h1 (aj (u2 (u2 (aj (k2 (aj h2 h3)) (al (ak h4))))) (al (u2 (u2 (aj (k2 (aj h2 h5)) (u2 (u2 (u2 s2)))))))))) t7) ht
theorem rhbx_0(q:QK)(h1:(decide (0<=iN q.i-1)=true))(h2:(0<=iN q.v))(h3:((Uu iv q.d)[(iN q.v).toNat]?=some (iv q.x)))(h4:(decide (0<q.x)=false)){post:Exit->St->Prop}{R:St->Prop}(hR:∀st,Ren 0 st (St.mk 67 [(0,UA (gL q.g)),(7,UA (Uu iv q.d)),(8,AV.sl 0 0 q.p.length),(9,iv (i64.wrap (iN q.v+1)))] [some (Blk.mk (Uu iv q.p) 1 true true none)])->R st):GoO UB (hU [84,73] (e32 q) (cW q)) 0 (zC (zC (zB Try.f143) 0) 0) (zK (zC (zB Try.f143) 0) 0) (Fq q) (andThen R post):=zN (σ:=[0]) (fz:=[]) (vars:=[0,7,8,9]) (by kernel_rfl) (aj (aj (aj (u2 (u2 (u2 (ag h1 (ag h1 (aj (aj h1 (k2 (aj h2 h3))) (ag h1 (ag h1 (al (aj h1 t2)))))))))) (al h4)) (al (u2 (u2 s2)))) t6) hR
theorem rhbx_1(q:QK)(h1:(decide (0<=iN q.i-1)=false)){post:Exit->St->Prop}{R:St->Prop}(hR:∀st,Ren 0 st (St.mk 67 [(0,UA (gL q.g)),(7,UA (Uu iv q.d)),(8,AV.sl 0 0 q.p.length),(9,iv (i64.wrap (iN q.v+1)))] [some (Blk.mk (Uu iv q.p) 1 true true none)])->R st):GoO UB (hU [84,72] (e32 q) (cW q)) 0 (zC (zC (zB Try.f143) 0) 0) (zK (zC (zB Try.f143) 0) 0) (Fq q) (andThen R post):=zN (σ:=[0]) (fz:=[]) (vars:=[0,7,8,9]) (by kernel_rfl) (aj (aj (aj (u2 (u2 (u2 (aj h1 (aj h1 (aj h1 (aj h1 (aj h1 (al (aj h1 t2)))))))))) (al (show(false=false) by first | decide | exact Tc _))) (al (u2 (u2 s2)))) t6) hR
theorem rhbr_0(q:QK)(h1:(decide (0<=iN q.i-1)=true))(h2:(0<=iN q.v))(h3:((Uu iv q.d)[(iN q.v).toNat]?=some (iv q.x)))(h4:(decide (0<q.x)=true))(h5:((gL q.g)[(iN q.v).toNat]?=some (UA (Uu iv q.r))))(h6:(0<=iN q.i-1))(h7:((Uu iv q.r)[(iN q.i-1).toNat]?=some (iv (iN q.w))))(h8:(0<=iN q.w))(h9:((Uu iv q.d)[(iN q.w).toNat]?=some (iv q.y)))(h10:((q.y==i64.wrap (q.x-1))=true))(h11:(iN q.v<iN q.p.length))(h12:((0+(iN q.v).toNat).succ.le (Uu iv q.p).length)){post:Exit->St->Prop}{R:St->Prop}(hR:∀st,Ren 0 st (St.mk 67 [(0,UA (gL q.g)),(7,UA (Uu iv q.d)),(8,AV.sl 0 0 q.p.length),(9,iv (iN q.v)),(10,iv (i64.wrap (iN q.i-1-1)))] [some (Blk.mk ((Uu iv q.p).set (0+(iN q.v).toNat) (iv (iN q.w))) 1 true true none)])->R st):GoP UB (hU [73,85,123] (e32 q) (cW q)) 0 (zC (zC (zB Try.f143) 0) 0) (Fq q) (andThen R post):=zN (σ:=[0]) (fz:=[]) (vars:=[0,7,8,9,10]) (by kernel_rfl) (aj (aj (u2 (u2 (u2 (ag h1 (ag h1 (aj (aj h1 (k2 (aj h2 h3))) (ag h1 (ag h1 (al (aj h1 t2)))))))))) (aj h4 (aj (u2 (u2 (aj (k2 (aj h2 h5)) (u2 (u2 (aj (k2 (aj h6 h7)) (u2 s2))))))) (aj (u2 (u2 (aj (k2 (aj h8 h9)) (u2 (u2 (u2 (aj (k2 (aj h2 h3)) (u2 (u2 (al t3)))))))))) (aj h10 (aj (u2 (u2 (u2 (aj (k2 (aj h2 h11)) (al (k2 h12)))))) (al (u2 (u2 s2))))))))) t7) hR
theorem rhbr_1(q:QK)(h1:(decide (0<=iN q.i-1)=true))(h2:(0<=iN q.v))(h3:((Uu iv q.d)[(iN q.v).toNat]?=some (iv q.x)))(h4:(decide (0<q.x)=true))(h5:((gL q.g)[(iN q.v).toNat]?=some (UA (Uu iv q.r))))(h6:(0<=iN q.i-1))(h7:((Uu iv q.r)[(iN q.i-1).toNat]?=some (iv (iN q.w))))(h8:(0<=iN q.w))(h9:((Uu iv q.d)[(iN q.w).toNat]?=some (iv q.y)))(h10:((q.y==i64.wrap (q.x-1))=false)){post:Exit->St->Prop}{R:St->Prop}(hR:∀st,Ren 0 st (St.mk 67 [(0,UA (gL q.g)),(7,UA (Uu iv q.d)),(8,AV.sl 0 0 q.p.length),(9,iv (iN q.v)),(10,iv (i64.wrap (iN q.i-1-1)))] [some (Blk.mk (Uu iv q.p) 1 true true none)])->R st):GoP UB (hU [73,85,122] (e32 q) (cW q)) 0 (zC (zC (zB Try.f143) 0) 0) (Fq q) (andThen R post):=zN (σ:=[0]) (fz:=[]) (vars:=[0,7,8,9,10]) (by kernel_rfl) (aj (aj (u2 (u2 (u2 (ag h1 (ag h1 (aj (aj h1 (k2 (aj h2 h3))) (ag h1 (ag h1 (al (aj h1 t2)))))))))) (aj h4 (aj (u2 (u2 (aj (k2 (aj h2 h5)) (u2 (u2 (aj (k2 (aj h6 h7)) (u2 s2))))))) (aj (u2 (u2 (aj (k2 (aj h8 h9)) (u2 (u2 (u2 (aj (k2 (aj h2 h3)) (u2 (u2 (al t3)))))))))) (aj h10 (al (u2 (u2 s2)))))))) t7) hR
theorem rf_0(q:QK)(h1:(CT UB 125 [] [UA (gL q.g),UA (boL q.s),iv (iN q.w)] [] (UA (Uu iv q.d))))(h2:(0<=iN q.v))(h3:((Uu iv q.d)[(iN q.v).toNat]?=some (iv q.x)))(h4:(decide (q.x<0)=false))(h5:(CT UB 143 [] [UA (gL q.g),UA (boL q.s),iv (iN q.w)] [] (UA (Uu iv q.p)))){post:Exit->St->Prop}(ht:T UB 0 (.loop (zC (zB Try.f126) 0)) (St.mk 37 [(2,iv (iN q.v)),(3,iv (iN q.w)),(9,UA (Uu iv q.p)),(10,AV.sl 0 0 1)] [some (Blk.mk [iv (iN q.v)] 1 true true none)]) (TK UB 0 post (zK (zB Try.f126) 0))):GoP UB (hU [36] (e34 q) (cW q)) 0 (zB Try.f126) (st34 q) post:=zR (σ:=[0]) (fz:=[]) (vars:=[2,3,9,10]) (by kernel_rfl) (aj (u2 (aj (u2 (u2 (u2 (aj (ak (k5 (al h1))) (u2 (aj (k2 (aj h2 h3)) (u2 s2))))))) (aj h4 (aj (u2 (u2 (u2 (aj (ak (k5 (al h5))) s2)))) (al (u2 (u2 s2))))))) t6) ht
theorem rfn_0(q:QK)(h1:(CT UB 125 [] [UA (gL q.g),UA (boL q.s),iv (iN q.w)] [] (UA (Uu iv q.d))))(h2:(0<=iN q.v))(h3:((Uu iv q.d)[(iN q.v).toNat]?=some (iv q.x)))(h4:(decide (q.x<0)=true)):GoP UB (hU [37] (e34 q) (cW q)) 0 (zB Try.f126) (st34 q) (Fin UB Try.f126 0 [] (AV.nils)):=zF (σ:=[]) (fz:=[]) (by kernel_rfl) (aj (u2 (aj (u2 (u2 (u2 (aj (ak (k5 (al h1))) (u2 (aj (k2 (aj h2 h3)) (u2 s2))))))) (aj h4 s2))) t2)
theorem rfex_0(q:QK)(h1:((iN q.v != iN q.w)=false))(h2:(q.i+1=(Uu iv q.r).length)):GoO UB (hU [54] (e34 q) (cW q)) 0 (zC (zB Try.f126) 0) (zK (zB Try.f126) 0) (GN q) (Fin UB Try.f126 0 [] (UA (Uu iv q.r))):=zF (σ:=[]) (fz:=[0]) (by kernel_rfl) (aj (aj (aj (u2 (u2 (al t3))) (al h1)) (al (u2 s2))) (al h2))
theorem rfe_0(q:QK)(h1:((iN q.v != iN q.w)=true))(h2:(0<=iN q.v))(h3:((Uu iv q.p)[(iN q.v).toNat]?=some (iv (iN q.a))))(h4:((Uu iv q.r).length=q.i+1))(h5:(1<=[iv (iN q.a)].length))(h6:((Uu iv q.r).length+[iv (iN q.a)].length<=9223372036854775807))(h7:(((Uu iv q.r).length+[iv (iN q.a)].length) * 8<=140737488355328)){post:Exit->St->Prop}{R:St->Prop}(hR:∀st,Ren 0 st (St.mk 37 [(2,iv (iN q.a)),(3,iv (iN q.w)),(9,UA (Uu iv q.p)),(10,AV.sl 0 0 ((Uu iv q.r).length+[iv (iN q.a)].length))] [some (Blk.mk (Uu iv q.r++[iv (iN q.a)]) 1 true true none)])->R st):GoP UB (hU [55] (e34 q) (cW q)) 0 (zC (zB Try.f126) 0) (GN q) (andThen R post):=zN (σ:=[2]) (fz:=[]) (vars:=[2,3,9,10]) (by kernel_rfl) (aj (aj (u2 (u2 (al t3))) (aj h1 (aj (u2 (u2 (aj (k2 (aj h2 h3)) (u2 s2)))) (al (u2 (u2 (u2 (aj (k2 (aj h4 (aj (aj (show(nat_lit 1=nat_lit 1) by first | decide | exact Tc _) h5) (aj h6 h7)))) s2)))))))) t6) hR
theorem Lev.occ{g:List (List Int)}{s:List Bool}(hg:OkG g s){goal k:Nat}{d:List Int}(h:Lev g s goal k d){v m:Nat}(hv:v<g.length)(hm:d.getD v 0=(m:Int)):∀j,j<=m->((m-j:Nat):Int)∈d:=by
 have occ:∀j,j<=m->∃u,u<g.length/\d.getD u 0=((m-j:Nat):Int):=by
  intro j;induction j with
  | zero=>intro _;exact⟨v,hv,by rw[hm];rfl⟩
  | succ j ih=>
   intro hj;obtain⟨u,hu,he⟩:=ih (by omega);rcases h.back u hu (by omega) with rfl | ⟨_,w,hw,h1,h2⟩
   .rw[h.zero] at he;omega
   .have:=(hg.row u hu).2 w hw;exact⟨w.toNat,by omega,by omega⟩
 intro j hj;obtain⟨u,hu,he⟩:=occ j hj;rw[<-he,Ty,Tx (by rw[h.len];exact hu)];exact T5 _
theorem S8{g:List (List Int)}{s:List Bool}(hg:OkG g s){goal k:Nat}(hk:k+1=g.length){d:List Int}(h:Lev g s goal k d):BW g s d k=d:=by
 apply List.ext_getElem (by rw[ID]);intro v h1 h2;have hv:v<g.length:=by rw[<-h.len];exact h2
 have e:=NJ hg d h.len k v hv;rw[Ty,Tx h1] at e;have e2:d.getD v 0=d[v]:=by rw[Ty,Tx h2];rfl
 show(BW g s d k)[v]=d[v];rw[<-e2];refine Eq.trans e ?_;unfold rdV;by_cases c1:s.getD v false=true
 .rw[Tv c1]
 .rw[Tw c1];by_cases c2:0<=d.getD v 0
  .rw[Tv c2]
  .rw[Tw c2];by_cases c3:((g.getD v []).any fun w=>d.getD w.toNat 0==(k:Int))=true
   .exfalso;obtain⟨w,hw,he⟩:=List.any_eq_true.1 c3;have hwr:=(hg.row v hv).2 w hw;have occ:=h.occ hg (v:=w.toNat) (m:=k) (by omega) (by simpa using he);have hb:=(h.bnd v hv).1;have hneg:(-1:Int)∈d:=by
     have:d.getD v 0 = -1:=by omega
     rw[<-this,e2];exact T5 _
    have nd:((-1:Int)::(Uy (k+1)).map (fun j:Nat=>(j:Int))).Nodup:=by refine List.nodup_cons.2 ⟨fun hm=>?_,List.pairwise_map.2 ((List.nodup_range (n:=k+1)).imp fun hne e=>hne (Int.ofNat_inj.1 e))⟩;obtain⟨j,_,hj⟩:=T4.1 hm;omega
    have:=IX nd fun x hx=>by
     rcases T2.1 hx with rfl | hx
     .exact hneg
     .obtain⟨j,hj,rfl⟩:=T4.1 hx;have hj:=Uo.1 hj;have:=occ (k-j) (by omega)
      rwa [show k-(k-j)=j by omega] at this
    simp only[Ud,TA,Ug,h.len] at this;omega
   .rw[Tw c3]
theorem MR{g:List (List Int)}{s:List Bool}(hg:OkG g s){goal:Nat}(hgo:goal<g.length):AC g s goal (g.length-1)=AC g s goal g.length:=by
 unfold AC;by_cases hs:s.getD goal false=true
 .rw[Tv hs,Tv hs]
 .rw[Tw hs,Tw hs];obtain⟨k,hk⟩:∃k,k+1=g.length:=⟨g.length-1,by omega⟩;rw[<-hk,Th,FT];exact(S8 hg hk (Lev.run hg hgo k)).symm
theorem HO{p:Nat->Bool}:∀{n s:Nat},(∀i,s<=i->i<s+n->p i=false)->fnd p s n=none:=by
 intro n;induction n with
 | zero=>intro s _;rfl
 | succ n ih=>intro s h;rw[fnd,h s (TI _) (by omega)];exact ih fun i h1 h2=>h i (by omega) (by omega)
theorem D0{p:Nat->Bool}:∀{n s j:Nat},fnd p s n=some j->p j=true/\s<=j/\j<s+n:=by
 intro n;induction n with
 | zero=>intro s j h;cases h
 | succ n ih=>
  intro s j h;rw[fnd] at h;cases hp:p s with
  | true=>rw[hp] at h;cases h;exact⟨hp,TI _,by omega⟩
  | false=>rw[hp] at h;obtain⟨a,b,c⟩:=ih h;exact⟨a,by omega,by omega⟩
theorem Qr{g:List (List Int)}{s:List Bool}(hg:OkG g s){goal:Nat}{d:List Int}(hD:Dst g s goal d){u:Nat}(hu:u<g.length)(h0:0<d.getD u 0)(hgd:s.getD goal false=false):0<=B2 g d u/\B2 g d u<(g.length:Int)/\d.getD (B2 g d u).toNat 0=d.getD u 0-1:=by
 unfold B2;cases hf:fnd (DW g d u) 0 (g.getD u []).length with
 | some i=>obtain⟨a,_,b⟩:=D0 hf;obtain⟨w,hw,hw1,_⟩:=F9 hg hu (i:=i) (by omega);unfold DW at a;simp only[TF,decide_eq_true_eq,beq_iff_eq] at a;show 0<=(g.getD u []).getD i 0/\(g.getD u []).getD i 0<(g.length:Int)/\d.getD ((g.getD u []).getD i 0).toNat 0=_;exact⟨by omega,by omega,a.2⟩
 | none=>
  exfalso;rcases hD.back u hu (by omega) with rfl | ⟨_,w,hw,h1,h2⟩
  .rw[hD.zero hgd] at h0;omega
  .obtain⟨i,hi,rfl⟩:=Ua.1 hw;have hn:=CC hf i (TJ _) (by omega);have e:(g.getD u []).getD i 0=(g.getD u [])[i]:=by rw[Ty (l:=g.getD u []),Tx hi];rfl
   unfold DW at hn;rw[e,TD h0,Bool.true_and] at hn;have:d.getD ((g.getD u [])[i]).toNat 0=d.getD u 0-1:=by omega
   rw[this] at hn;simp at hn
theorem J4{g:List (List Int)}{s:List Bool}(hg:OkG g s){goal:Nat}(hgo:goal<g.length){d:List Int}(hD:Dst g s goal d){a m:Nat}(ha:a<g.length)(hm:d.getD a 0=(m:Int))(hgd:s.getD goal false=false):
  ∀k,k<=m->0<=wkZ g d a k/\wkZ g d a k<(g.length:Int)/\d.getD (wkZ g d a k).toNat 0=((m-k:Nat):Int):=by
 intro k;induction k with
 | zero=>intro _;exact⟨by simp[wkZ],by simp only[wkZ];omega,by simp only[wkZ,TG];rw[hm];rfl⟩
 | succ k ih=>intro hk;obtain⟨h1,h2,h3⟩:=ih (by omega);obtain⟨g1,g2,g3⟩:=Qr hg hD (u:=(wkZ g d a k).toNat) (by omega) (by omega) hgd;exact⟨g1,g2,by rw[wkZ,g3,h3];omega⟩
theorem JU{g:List (List Int)}{s:List Bool}{goal:Nat}{d:List Int}(hD:Dst g s goal d){v:Nat}(hv:v<g.length)(h0:d.getD v 0=0):v=goal:=by
 rcases hD.back v hv (by omega) with e | ⟨_,w,_,h1,h2⟩
 .exact e
 .omega
theorem wrapM(far:Nat)(h:far<1000000):i64.wrap (iN (far+1)-1)=(far:Int):=by
 have e1:(2:Int) ^ i64.bits=18446744073709551616:=by decide
 have e2:(2:Int) ^ (i64.bits-1)=9223372036854775808:=by decide
 have e3:i64.signed=true:=by decide
 simp only[IntKind.wrap,e1,e2,e3,Bool.true_and,decide_eq_true_eq,iN];split<;>omega
theorem rc_run{g:List (List Int)}{s:List Bool}(hg:OkG g s)(goal far v:Nat)(d:List Int)(hd:d.length=g.length)(hf:far<1000)(hv:v<g.length){R:St->Prop}{post:Exit->St->Prop}
  (hR:∀st,Ren 0 st (D4 (qd g s goal (F4 (g.getD v []) v far d) far (v+1) 0 []))->R st):
  T UB 0 (.loop (zC (zC (zC (zB Try.f125) 1) 0) 0)) (H6 (qd g s goal d far v 0 (g.getD v []))) (TK UB 0 (andThen R post) (zK (zC (zC (zB Try.f125) 1) 0) 0)):=by
 obtain⟨hr1,hr2⟩:=hg.row v hv;have hgl:=hg.len;have hrow:=CX hv;generalize g.getD v []=r at hR hr1 hr2 hrow;have hrl:=BV r;refine T.loop (fun i:Nat=>H6 (qd g s goal ((r.take i).foldl (BO v far) d) far v i r)) (fun i=>i<=r.length) (fun i=>r.length+1-i) 0 (TJ _) ?_;intro i hi;have hdl:((r.take i).foldl (BO v far) d).length=g.length:=by rw[D8 (JX v far),hd]
 by_cases h:i<r.length
 .obtain⟨w0,w1,_⟩:=hr2 r[i] (T5 h);obtain⟨w,hw⟩:∃w:Nat,r[i]=(w:Int):=⟨r[i].toNat,by omega⟩;have hwn:w<g.length:=by omega
  have hget:(r.map (AV.int .i64))[i]?=some (.int .i64 (w:Int)):=by rw[TH,Tx h,hw];rfl
  have hstep:=P6 (BO v far) r d i h;generalize hdd:(r.take i).foldl (BO v far) d=d' at hdl hstep;rw[hw] at hstep;have hml:=BV d';by_cases he:(d'.getD w 0==(far:Int))=true
  .refine T.path mix (rcr_0 ⟨g,s,goal,g.length,d',far,v,i,r,w,false,d'.getD w 0⟩ (by simp[iN]) hrow (TD (by simp only[iN,hrl];omega)) (by simp[iN]) hget (by simp[iN]) (by simp[iN];omega) (Ew (l:=d') (j:=w) (by omega)) (by simp only[wrapM far (show far<1000000 by omega)];exact he) (by simp[iN];omega) (by simp[iN,hml];omega) ?_);intro st hst;refine⟨i+1,?_,h,by omega⟩;have e:BO v far d' ((w:Nat):Int)=d'.set v ((far+1:Nat):Int):=by unfold BO;rw[TG,Tv he]
   rw[hstep,e];simp only[iN,TG,zW i (show i<9223372036854775807 by omega)] at hst;rw[map_set] at hst;exact hst
  .have hne:=he;have he:=Uk.2 he;refine T.path mix (rcr_1 ⟨g,s,goal,g.length,d',far,v,i,r,w,false,d'.getD w 0⟩ (by simp[iN]) hrow (TD (by simp only[iN,hrl];omega)) (by simp[iN]) hget (by simp[iN]) (by simp[iN];omega) (Ew (l:=d') (j:=w) (by omega)) (by simp only[wrapM far (show far<1000000 by omega)];exact he) ?_);intro st hst;refine⟨i+1,?_,h,by omega⟩;have e:BO v far d' ((w:Nat):Int)=d':=by unfold BO;rw[TG,Tw hne]
   rw[hstep,e];simp only[iN,zW i (show i<9223372036854775807 by omega)] at hst;exact hst
 .have hti:r.take i=r:=List.take_of_length_le (by omega);refine T.out mix (rcx_0 (qd g s goal ((r.take i).foldl (BO v far) d) far v i r) (by simp[iN]) hrow (TC (by simp only[iN,qd,hrl];omega)) ?_);intro st hst;refine hR st ?_;rw[hti] at hst;simp only[iN,qd,zW v (show v<9223372036854775807 by omega)] at hst;exact hst
theorem rb_run{g:List (List Int)}{s:List Bool}(hg:OkG g s)(goal far:Nat)(d:List Int)(hd:d.length=g.length)(hf:far<1000){R:St->Prop}{post:Exit->St->Prop}
  (hR:∀st,Ren 0 st (JA (qd g s goal (BW g s d far) (far+1) 0 0 []))->R st):
  T UB 0 (.loop (zC (zC (zB Try.f125) 1) 0)) (D4 (qd g s goal d far 0 0 [])) (TK UB 0 (andThen R post) (zK (zC (zB Try.f125) 1) 0)):=by
 have hgl:=hg.len;have hl:=BD g;refine T.loop (fun v:Nat=>D4 (qd g s goal ((Uy v).foldl (Ba g s far) d) far v 0 [])) (fun v=>v<=g.length) (fun v=>g.length+1-v) 0 (TJ _) ?_;intro v hv;have hdl:((Uy v).foldl (Ba g s far) d).length=g.length:=by rw[D8 (I3 g s far),hd]
 by_cases h:v<g.length
 .have hstep:=FT (Ba g s far) d v;generalize (Uy v).foldl (Ba g s far) d=d' at hdl hstep;have hb:=Gq (s:=s) (v:=v) (by rw[hg.sh];exact h);have d1:∀q:QD,q.g=g->q.v=v->decide (iN q.v<iN (gL q.g).length)=true:=fun q e1 e2=>TD (by rw[e1,e2];simp only[iN,hl];omega)
  have next:∀(d'':List Int) (st:St),Ba g s far d' v=d''->Ren 0 st (D4 (qd g s goal d'' far (v+1) 0 []))->∃j,Ren 0 st (D4 (qd g s goal ((Uy j).foldl (Ba g s far) d) far j 0 []))/\j<=g.length/\g.length+1-j<g.length+1-v:=by intro d'' st e hst;refine⟨v+1,?_,h,by omega⟩;rw[hstep,e];exact hst
  by_cases hs:s.getD v false=true
  .refine T.path mix (rbn_0 ⟨g,s,goal,g.length,d',far,v,0,[],0,s.getD v false,0⟩ (d1 _ rfl rfl) (by simp[iN]) hb hs ?_);intro st hst;simp only[iN,zW v (show v<9223372036854775807 by omega)] at hst;exact next d' st (by unfold Ba;rw[Tv hs]) hst
  .by_cases hd0:decide (0<=d'.getD v 0)=true
   .refine T.path mix (rbn_1 ⟨g,s,goal,g.length,d',far,v,0,[],0,s.getD v false,d'.getD v 0⟩ (d1 _ rfl rfl) (by simp[iN]) hb (Uk.2 hs) (by simp[iN];omega) (Ew (l:=d') (j:=v) (by omega)) hd0 ?_);intro st hst;simp only[iN,zW v (show v<9223372036854775807 by omega)] at hst;exact next d' st (by unfold Ba;rw[Tw hs,Tv hd0]) hst
   .refine T.path mix (rbi_0 ⟨g,s,goal,g.length,d',far,v,0,g.getD v [],0,s.getD v false,d'.getD v 0⟩ (d1 _ rfl rfl) (by simp[iN]) hb (Uk.2 hs) (by simp[iN];omega) (Ew (l:=d') (j:=v) (by omega)) (Uk.2 hd0) ?_);exact rc_run hg goal far v d' hdl hf h (R:=fun st'=>∃j,Ren 0 st' (D4 (qd g s goal ((Uy j).foldl (Ba g s far) d) far j 0 []))/\j<=g.length/\g.length+1-j<g.length+1-v) (post:=TK UB 0 (andThen R post) (zK (zC (zB Try.f125) 1) 0)) fun st hst=>next _ st (by unfold Ba;rw[Tw hs,Tw hd0]) hst
 .obtain rfl:v=g.length:=by omega
  refine T.out mix (rbx_0 (qd g s goal ((Uy g.length).foldl (Ba g s far) d) far g.length 0 []) (TC (by simp only[iN,qd,hl];omega)) ?_);intro st hst;refine hR st ?_;simp only[iN,qd,zW (far+1) (show far+1<9223372036854775807 by omega)] at hst;exact hst
theorem K6{g:List (List Int)}{s:List Bool}(hg:OkG g s)(goal:Nat)(hgo:goal<g.length):CT UB 125 [] [.lst (gL g),.lst (boL s),.int .i64 (goal:Nat)] [] (lI (AC g s goal (g.length-1))):=by
 have hgl:=hg.len;have hl:=BD g;refine CT.path mix Try.func125 (show Try.f125.body=some (zB Try.f125) by kernel_rfl) (nL rfl) (ri_0 (qd g s goal [] 0 0 0 []) (Int.le_refl _) (by simp only[qd,iN,hl];omega) (by simp only[qd,iN,hl];omega) ?_);have hb:=Gq (s:=s) (v:=goal) (by rw[hg.sh];exact hgo);have key:T UB 0 (.loop (zC (zB Try.f125) 0)) (Hg (qd g s goal (BE g.length 0) 0 0 0 [])) (TK UB 0 (Fin UB Try.f125 0 [] (lI (AC g s goal (g.length-1)))) (zK (zB Try.f125) 0)):=by
  refine T.loop (fun i:Nat=>Hg (qd g s goal (BE g.length i) 0 0 i [])) (fun i=>i<=g.length) (fun i=>g.length+1-i) 0 (TJ _) ?_;intro i hi;by_cases h:i<g.length
  .refine T.path mix (rfr_0 (qd g s goal (BE g.length i) 0 0 i []) (TD (by simp only[iN,qd,hl];omega)) (by simp[iN]) (by simp[iN,qd];omega) (by simp[iN,qd,Gf];omega) ?_);intro st hst;refine⟨i+1,?_,h,by omega⟩;simp only[iN,qd,TG,zW i (show i<9223372036854775807 by omega)] at hst;rw[map_set,Pf _ _ h] at hst;exact hst
  .obtain rfl:i=g.length:=by omega
   by_cases hs:s.getD goal false=true
   .have k:=rfs_0 ⟨g,s,goal,g.length,BE g.length g.length,0,0,g.length,[],0,s.getD goal false,0⟩ (TC (by simp only[iN,hl];omega)) (by simp[iN]) hb hs (by simp[Gf]);have e:AC g s goal (g.length-1)=BE g.length g.length:=by unfold AC;rw[Tv hs,JQ]
    rw[e];exact T.out mix k
   .have e:AC g s goal (g.length-1)=(Uy (g.length-1)).foldl (BW g s) (Cq g goal):=by unfold AC;rw[Tw hs]
    refine T.out mix (rfx_0 ⟨g,s,goal,g.length,BE g.length g.length,0,0,g.length,[],0,s.getD goal false,0⟩ (TC (by simp only[iN,hl];omega)) (by simp[iN]) hb (Uk.2 hs) (by simp[iN];omega) (by simp[iN,Gf];omega) ?_);simp only[iN,TG];rw[map_set,JQ,e];refine T.loop (fun far:Nat=>JA (qd g s goal ((Uy far).foldl (BW g s) (Cq g goal)) far 0 0 [])) (fun far=>far<=g.length-1) (fun far=>g.length+1-far) 0 (TJ _) ?_;intro far hfar;have hdl:((Uy far).foldl (BW g s) (Cq g goal)).length=g.length:=by rw[D8 (ID g s),KD]
    by_cases hf:far<g.length-1
    .refine T.path mix (rai_0 (qd g s goal ((Uy far).foldl (BW g s) (Cq g goal)) far 0 0 []) (TD (by simp only[iN,qd,hl];omega)) ?_);refine rb_run hg goal far _ hdl (by omega) fun st hst=>⟨far+1,?_,hf,by omega⟩
     rw[FT];exact hst
    .obtain rfl:far=g.length-1:=by omega
     exact T.out mix (rax_0 (qd g s goal ((Uy (g.length-1)).foldl (BW g s) (Cq g goal)) (g.length-1) 0 0 []) (TC (by simp only[iN,qd,hl];omega)) (by simp[qd,hdl]))
 unfold Hg qd dB at key;simp only[qd,hl,PZ];exact key
def qw(g:List (List Int))(s:List Bool)(d:List Int)(v w i:Nat)(r p:List Int)(x y:Int):QK:=⟨g,s,d,v,w,0,i,r,x,y,false,0,p,[]⟩
theorem set_set'(l:List Int)(v:Nat)(a b:Int):(l.set v a).set v b=l.set v b:=by rw[List.set_set]
theorem rhb_run{g:List (List Int)}{s:List Bool}(hg:OkG g s)(d:List Int)(hd:d.length=g.length)(hsm:Dz d)(v:Nat)(hv:v<g.length){R:St->Prop}{post:Exit->St->Prop}
  (hR:∀st,Ren 0 st (Fh (qw g s d (v+1) 0 0 [] (Br g d (v+1)) 0 0))->R st):
  T UB 0 (.loop (zC (zC (zB Try.f143) 0) 0)) (Fq (qw g s d v 0 (g.getD v []).length (g.getD v []) ((Br g d v).set v (-1)) 0 0)) (TK UB 0 (andThen R post) (zK (zC (zB Try.f143) 0) 0)):=by
 have hgl:=hg.len;have hr1:=(hg.row v hv).1;have hrow:=CX hv;have hget:=fun i=>F9 hg hv (i:=i)
 have hdv:=hsm.get (v:=v) (by omega);have hv1:=Bu (l:=d) (j:=v) (by omega);have hz:B2 g d v=DY (g.getD v []) (fnd (DW g d v) 0 (g.getD v []).length):=rfl;have hP:∀i,DW g d v i=(decide (0<d.getD v 0)&&(d.getD ((g.getD v []).getD i 0).toNat 0==d.getD v 0-1)):=fun i=>rfl
 have hfs:=SY g d v hv;have hfl:=Nv g d v;generalize DW g d v=pp at hz hP;generalize g.getD v []=r at hr1 hrow hget hP hz;rw[hz] at hfs;have fin:∀cur,cur=DY r (fnd pp 0 r.length)->∀st,Ren 0 st (Fh (qw g s d (v+1) 0 0 [] ((Br g d v).set v cur) 0 0))->R st:=by intro cur hc st hst;rw[hc,hfs] at hst;exact hR st hst
 have lenS:∀cur:Int,((Br g d v).set v cur).length=g.length:=by intro cur;simp[hfl]
 have wv:i64.wrap (iN v+1)=((v+1:Nat):Int):=zW v (by omega);refine T.loop (fun i:Nat=>Fq (qw g s d v 0 i r ((Br g d v).set v (DY r (fnd pp i (r.length-i)))) 0 0)) (fun i=>i<=r.length) (fun i=>i) r.length ?_ ?_ |> fun h=>by simpa [fnd,DY] using h
 .exact TI _
 intro i hi;by_cases h0:0<i
 .have hik:decide (0<=iN i-1)=true:=TD (by simp only[iN];omega);by_cases hp:0<d.getD v 0
  .obtain⟨w,hw,hw1,hw2⟩:=hget (i-1) (by omega);have hg1:=Bu (l:=r) (j:=i-1) (by omega);rw[hw] at hg1;have hidx:(iN i-1).toNat=i-1:=by simp only[iN];omega
   have hw3:=Bu (l:=d) (j:=w) (by omega);have hpi:=hP (i-1);rw[hw,TG,TD hp,Bool.true_and] at hpi;obtain⟨m,hm⟩:∃m:Nat,d.getD v 0=(m:Int):=⟨(d.getD v 0).toNat,by omega⟩;have hwr:i64.wrap (d.getD v 0-1)=d.getD v 0-1:=by rw[hm,FM m (by omega) (by omega)];omega
   have hwi:i64.wrap (iN i-1-1)=iN (i-1)-1:=by
    by_cases h1:1<i
    .have:=FM (i-1) (by omega) (by omega);have e:iN i-1-1=((i-1:Nat):Int)-1:=by simp only[iN];omega
     rw[e,this];simp only[iN];omega
    .obtain rfl:i=1:=by omega
     exact A6 _ (by decide) (by decide)
   have hf:fnd pp (i-1) (r.length-(i-1))=(match pp (i-1) with | true=>some (i-1) | false=>fnd pp i (r.length-i)):=by
    have:=CV (p:=pp) (s:=i-1) (k:=r.length) (by omega)
    rwa [show i-1+1=i by omega] at this
   by_cases he:(d.getD w 0==d.getD v 0-1)=true
   .rw[he] at hpi;refine T.path mix (rhbr_0 ⟨g,s,d,v,w,0,i,r,d.getD v 0,d.getD w 0,false,0,(Br g d v).set v (DY r (fnd pp i (r.length-i))),[]⟩ hik (by simp[iN]) hv1 (TD hp) hrow (by simp only[iN];omega) (by simp only[hidx];exact hg1) (by simp[iN]) hw3 (by simp only[hwr];exact he) (by simp[iN,hfl];omega) (by simp[iN,hfl];omega) ?_);intro st hst;refine⟨i-1,?_,by omega,by omega⟩;simp only[iN,TG] at hst hwi;rw[hwi,map_set,set_set'] at hst;rw[hf,hpi];simp only[T6] at hst;unfold Fq qw;simp only[T6];show Ren 0 st {n:=_,fr:=_,hp:=[some (dB ((Br g d v).set v (r.getD (i-1) 0)))]};rw[hw];exact hst
   .have he:=Uk.2 he;rw[he] at hpi;refine T.path mix (rhbr_1 ⟨g,s,d,v,w,0,i,r,d.getD v 0,d.getD w 0,false,0,(Br g d v).set v (DY r (fnd pp i (r.length-i))),[]⟩ hik (by simp[iN]) hv1 (TD hp) hrow (by simp only[iN];omega) (by simp only[hidx];exact hg1) (by simp[iN]) hw3 (by simp only[hwr];exact he) ?_);intro st hst;refine⟨i-1,?_,by omega,by omega⟩;simp only[iN] at hst hwi;rw[hwi] at hst;rw[hf,hpi];exact hst
  .have hall:∀j n',fnd pp j n'=none:=fun j n'=>HO fun k _ _=>by rw[hP k,TC hp,Bool.false_and]
   refine T.out mix (rhbx_0 ⟨g,s,d,v,0,0,i,r,d.getD v 0,0,false,0,(Br g d v).set v (DY r (fnd pp i (r.length-i))),[]⟩ hik (by simp[iN]) hv1 (TC hp) ?_);intro st hst;simp only[wv] at hst;refine fin (DY r (fnd pp i (r.length-i))) (by rw[hall,hall]) st hst
 .obtain rfl:i=0:=by omega
  refine T.out mix (rhbx_1 ⟨g,s,d,v,0,0,0,r,0,0,false,0,(Br g d v).set v (DY r (fnd pp 0 (r.length-0))),[]⟩ (by simp[iN]) ?_);intro st hst;simp only[wv] at hst;exact fin _ rfl st hst
theorem rhops_ct{g:List (List Int)}{s:List Bool}(hg:OkG g s)(goal:Nat)(hgo:goal<g.length):CT UB 143 [] [.lst (gL g),.lst (boL s),.int .i64 (goal:Nat)] [] (lI (BG g (AC g s goal g.length))):=by
 have hgl:=hg.len;have hl:=BD g;have c0:=K6 hg goal hgo;rw[MR hg hgo] at c0;have hdl:=OM g s goal g.length;have hsm:=Pb g s goal g.length (by omega);generalize AC g s goal g.length=d at c0 hdl hsm;refine CT.path mix Try.func143 (show Try.f143.body=some (zB Try.f143) by kernel_rfl) (nL rfl) (rh_0 ⟨g,s,d,goal,0,0,0,[],0,0,false,0,[],[]⟩ c0 (Int.le_refl _) (by simp only[iN,hl];omega) (by simp only[iN,hl];omega) ?_);have key:T UB 0 (.loop (zC (zB Try.f143) 0)) (Fh (qw g s d 0 0 0 [] (Br g d 0) 0 0)) (TK UB 0 (Fin UB Try.f143 0 [] (lI (BG g d))) (zK (zB Try.f143) 0)):=by
  refine T.loop (fun v:Nat=>Fh (qw g s d v 0 0 [] (Br g d v) 0 0)) (fun v=>v<=g.length) (fun v=>g.length+1-v) 0 (TJ _) ?_;intro v hv;have hfl:=Nv g d v;by_cases h:v<g.length
  .have hr1:=(hg.row v h).1;have ew:i64.wrap (iN ((g.getD v []).map (AV.int .i64)).length-1)=iN (g.getD v []).length-1:=by
    rw[BV];by_cases h1:0<(g.getD v []).length
    .have:=FM _ h1 (by omega);simp only[iN];rw[this];omega
    .rw[show (g.getD v []).length=0 by omega];exact A6 _ (by decide) (by decide)
   refine T.path mix (rhi_0 (qw g s d v 0 0 (g.getD v []) (Br g d v) 0 0) (TD (by simp only[iN,qw,hl];omega)) (by simp[iN]) (by simp[iN,qw,hfl];omega) (by simp[iN,qw,hfl];omega) (CX h) ?_);have k:=rhb_run hg d hdl hsm v h (R:=fun st'=>∃j,Ren 0 st' (Fh (qw g s d j 0 0 [] (Br g d j) 0 0))/\j<=g.length/\g.length+1-j<g.length+1-v) (post:=TK UB 0 (Fin UB Try.f143 0 [] (lI (BG g d))) (zK (zB Try.f143) 0)) fun st hst=>⟨v+1,hst,h,by omega⟩
   simp only[qw,ew];rw[show (iN v).toNat=v from rfl,map_set];unfold Fq qw at k;simp only[T6] at k;exact k
  .obtain rfl:v=g.length:=by omega
   have k:=rhx_0 (qw g s d g.length 0 0 [] (Br g d g.length) 0 0) (TC (by simp only[iN,qw,hl];omega)) (by simp[qw]);rw[<-fillH_n];exact T.out mix k
 unfold Fh qw dB at key;simp only[Nv,NT g d] at key;simp only[hl,NT g d];exact key
def upd(m:Nat->Bool)(w:Nat):Nat->Bool:=fun i=>if i=w then true else m i
def cnt(m:Nat->Bool):Nat->Nat | 0=>0 | n+1=>cnt m n+if m n=true then 0 else 1
theorem Q6(m:Nat->Bool)(w:Nat):∀n,n<=w->cnt (upd m w) n=cnt m n:=by
 intro n;induction n with
 | zero=>intro _;rfl
 | succ n ih=>intro h;rw[cnt,cnt,ih (by omega)];simp[upd,show n≠w by omega]
theorem cnt_upd(m:Nat->Bool)(w:Nat)(hm:m w=false):∀n,w<n->cnt (upd m w) n+1=cnt m n:=by
 intro n;induction n with
 | zero=>intro h;omega
 | succ n ih=>
  intro h;rw[cnt,cnt];by_cases e:n=w
  .subst e;rw[Q6 m n n (TI _),hm];simp[upd]
  .have:=ih (by omega);simp only[upd,e,if_false] at this ⊢
   omega
def Clo(g:List (List Int))(s:List Bool)(C:Nat->Prop):Prop:=∀u,u<g.length->C u->∀w∈g.getD u [],s.getD w.toNat false=false->C w.toNat
def Rch(g:List (List Int))(s:List Bool)(v u:Nat):Prop:=s.getD v false=false/\∀C:Nat->Prop,C v->Clo g s C->C u
theorem Rch.step{g:List (List Int)}{s:List Bool}{v u:Nat}(h:Rch g s v u)(hu:u<g.length){w:Int}(hw:w∈g.getD u [])(ho:s.getD w.toNat false=false):Rch g s v w.toNat:=⟨h.1,fun C hv hc=>hc u hu (h.2 C hv hc) w hw ho⟩
theorem Rch.refl{g:List (List Int)}{s:List Bool}{v:Nat}(h:s.getD v false=false):Rch g s v v:=⟨h,fun _ hv _=>hv⟩
theorem Rch.lt{g:List (List Int)}{s:List Bool}(hg:OkG g s){v u:Nat}(hv:v<g.length)(h:Rch g s v u):u<g.length:=h.2 (· < g.length) hv fun x hx _ w hw _=>by have:=(hg.row x hx).2 w hw;omega
def BX(r:List Int)(i:Nat):Int:=if i=0 then -1 else r.getD (i-1) 0
theorem Rw{r:List Int}{i:Nat}:BX r (i+1)=r.getD i 0:=by unfold BX;simp
def K2(g:List (List Int))(s:List Bool)(m:Nat->Bool)(u:Nat):Prop:=∀w∈g.getD u [],s.getD w.toNat false=false->m w.toNat=true
theorem K2.upd{g:List (List Int)}{s:List Bool}{m:Nat->Bool}{u:Nat}(h:K2 g s m u)(w:Nat):K2 g s (upd m w) u:=fun x hx ho=>by unfold Go.Proofs.Ytedjkebooffjpaa.upd;rw[h x hx ho];simp
def Iz(d:List Int)(n:Nat):Nat:=cnt (fun v=>decide (0<=d.getD v 0)) n
theorem cntD_set{d:List Int}{v:Nat}{x:Int}(hv:v<d.length)(hd:d.getD v 0<0)(hx:0<=x){n:Nat}(hn:v<n):Iz (d.set v x) n+1=Iz d n:=by
 have e:(fun u=>decide (0<=(d.set v x).getD u 0))=upd (fun u=>decide (0<=d.getD u 0)) v:=by
  funext u;rw[JG d v u x hv];unfold upd;by_cases h:u=v
  .subst h;simp[hx]
  .rw[Tw (fun e=>h e.symm),Tw h]
 unfold Iz;rw[e];exact cnt_upd _ v (TC (by omega)) n hn
structure Bf(g:List (List Int))(s:List Bool)(goal:Nat)(d o:List Int):Prop where
 len:d.length=g.length
 zero:d.getD goal 0=0
 neg:∀v,v<g.length->-1<=d.getD v 0
 que:∀x∈o,∃u:Nat,x=(u:Int)/\u<g.length/\0<=d.getD u 0
 srt:o.Pairwise fun a b=>d.getD a.toNat 0<=d.getD b.toNat 0
 back:∀v,v<g.length->0<=d.getD v 0->v=goal\/(s.getD v false=false/\∃w∈g.getD v [],0<=d.getD w.toNat 0/\d.getD v 0=d.getD w.toNat 0+1)
 bnd:∀v,v<g.length->d.getD v 0+(Iz d g.length:Nat)<g.length
 mea:o.length+Iz d g.length<=g.length
def Jr(g:List (List Int))(s:List Bool)(d:List Int)(u:Nat):Prop:=∀v,v<g.length->s.getD v false=false->(u:Int)∈g.getD v []->0<=d.getD v 0/\d.getD v 0<=d.getD u 0+1
structure Bm(g:List (List Int))(s:List Bool)(goal:Nat)(d o:List Int)(w k:Nat):Prop where
 bf:Bf g s goal d o
 wl:w<g.length
 pos:0<=d.getD w 0
 le:∀v,v<g.length->d.getD v 0<=d.getD w 0+1
 ge:∀x∈o,d.getD w 0<=d.getD x.toNat 0
 cls:∀u,u<g.length->0<=d.getD u 0->(u:Int)∈o\/u=w\/Jr g s d u
 don:∀v,v<k->v<g.length->s.getD v false=false->(w:Int)∈g.getD v []->0<=d.getD v 0
structure Bo(g:List (List Int))(s:List Bool)(goal:Nat)(d o:List Int):Prop where
 bf:Bf g s goal d o
 le:∀x∈o,∀v,v<g.length->d.getD v 0<=d.getD x.toNat 0+1
 cls:∀u,u<g.length->0<=d.getD u 0->(u:Int)∈o\/Jr g s d u
theorem Bm.skip{g:List (List Int)}{s:List Bool}{goal:Nat}{d o:List Int}{w k:Nat}(h:Bm g s goal d o w k)(hk:0<=d.getD k 0\/s.getD k false=true\/(w:Int)∉g.getD k []):Bm g s goal d o w (k+1):=
 ⟨h.bf,h.wl,h.pos,h.le,h.ge,h.cls,fun v hv hvl hs hm=>by
  by_cases e:v=k
  .subst e;rcases hk with h1 | h1 | h1
   .exact h1
   .rw[hs] at h1;cases h1
   .exact absurd hm h1
  .exact h.don v (by omega) hvl hs hm⟩
theorem Bm.push{g:List (List Int)}{s:List Bool}{goal:Nat}{d o:List Int}{w k:Nat}(h:Bm g s goal d o w k)(hk:k<g.length)(hd:d.getD k 0<0)(hs:s.getD k false=false)(hm:(w:Int)∈g.getD k []):
  Bm g s goal (d.set k (d.getD w 0+1)) (o++[(k:Int)]) w (k+1):=by
 have hkl:k<d.length:=by rw[h.bf.len];exact hk
 have gs:=fun u=>JG d k u (d.getD w 0+1) hkl
 have hne:∀u,0<=d.getD u 0->(d.set k (d.getD w 0+1)).getD u 0=d.getD u 0:=by intro u hu;rw[gs,Tw (by rintro rfl;omega)]
 have hkk:(d.set k (d.getD w 0+1)).getD k 0=d.getD w 0+1:=by rw[gs,Tv rfl]
 have hgk:goal≠k:=by rintro rfl;rw[h.bf.zero] at hd;omega
 have hc:=cntD_set hkl hd (show 0<=d.getD w 0+1 by have:=h.pos;omega) hk;have hw0:=hne w h.pos;have hq:∀x∈o,(d.set k (d.getD w 0+1)).getD x.toNat 0=d.getD x.toNat 0:=by intro x hx;obtain⟨u,rfl,_,hu⟩:=h.bf.que x hx;exact hne _ (by simpa using hu)
 have hcls:∀u,u<g.length->0<=d.getD u 0->Jr g s d u->Jr g s (d.set k (d.getD w 0+1)) u:=by intro u _ hu hc v hv hsv hmv;obtain⟨a,b⟩:=hc v hv hsv hmv;rw[hne v a,hne u hu];exact⟨a,b⟩
 refine⟨⟨by rw[T6];exact h.bf.len,by rw[hne goal (by rw[h.bf.zero];omega)];exact h.bf.zero,fun v hv=>?_,fun x hx=>?_,?_,fun v hv h0=>?_,fun v hv=>?_,by simp only[TU,Ud,Ue];have:=h.bf.mea;omega⟩,h.wl,by rw[hw0];exact h.pos,fun v hv=>?_,fun x hx=>?_,fun u hu h0=>?_,fun v hv hvl hsv hmv=>?_⟩
 .rw[gs];split
  .have:=h.pos;omega
  .exact h.bf.neg v hv
 .rcases T3.1 hx with hx | hx
  .obtain⟨u,rfl,hu1,hu2⟩:=h.bf.que x hx;exact⟨u,rfl,hu1,by rw[hne u hu2];exact hu2⟩
  .simp only[Tm] at hx;exact⟨k,hx,hk,by rw[hkk];have:=h.pos;omega⟩
 .rw[List.pairwise_append];refine⟨h.bf.srt.imp_of_mem fun {a b} ha hb hab=>by rw[hq a ha,hq b hb];exact hab,by simp,fun a ha b hb=>?_⟩;simp only[Tm] at hb;subst hb;rw[hq a ha,TG,hkk];obtain⟨u,rfl,hu,_⟩:=h.bf.que a ha;rw[TG];exact h.le u hu
 .by_cases e:v=k
  .subst e;refine .inr ⟨hs,(w:Int),hm,?_,?_⟩
   .rw[TG,hw0];exact h.pos
   .rw[TG,hw0,hkk]
  .have e2:(d.set k (d.getD w 0+1)).getD v 0=d.getD v 0:=by rw[gs,Tw (fun e'=>e e'.symm)]
   rw[e2] at h0 ⊢
   rcases h.bf.back v hv h0 with h1 | ⟨h1,x,hx,h2,h3⟩
   .exact .inl h1
   .exact .inr ⟨h1,x,hx,by rw[hne _ h2];exact h2,by rw[hne _ h2];exact h3⟩
 .rw[gs];split
  .have:=h.bf.bnd w h.wl;omega
  .have:=h.bf.bnd v hv;omega
 .rw[hw0,gs];split
  .exact Int.le_refl _
  .exact h.le v hv
 .rw[hw0];rcases T3.1 hx with hx | hx
  .rw[hq x hx];exact h.ge x hx
  .simp only[Tm] at hx;rw[hx,TG,hkk];omega
 .by_cases e:u=k
  .exact .inl (by rw[e];simp)
  .have e2:(d.set k (d.getD w 0+1)).getD u 0=d.getD u 0:=by rw[gs,Tw (fun e'=>e e'.symm)]
   rw[e2] at h0;rcases h.cls u hu h0 with h1 | h1 | h1
   .exact .inl (List.mem_append_left _ h1)
   .exact .inr (.inl h1)
   .exact .inr (.inr (hcls u hu h0 h1))
 .by_cases e:v=k
  .subst e;rw[hkk];have:=h.pos;omega
  .have:=h.don v (by omega) hvl hsv hmv;rw[hne v this];exact this
theorem Bm.fin{g:List (List Int)}{s:List Bool}{goal:Nat}{d o:List Int}{w:Nat}(h:Bm g s goal d o w g.length):Bo g s goal d o:=by
 refine⟨h.bf,fun x hx v hv=>?_,fun u hu h0=>?_⟩
 .have h1:=h.le v hv;have h2:=h.ge x hx;omega
 .rcases h.cls u hu h0 with h1 | h1 | h1
  .exact .inl h1
  .exact .inr (by rw[h1];exact fun v hv hs hm=>⟨h.don v hv hv hs hm,h.le v hv⟩)
  .exact .inr h1
theorem Bo.dst{g:List (List Int)}{s:List Bool}(hg:OkG g s){goal:Nat}(hs:s.getD goal false=false){d:List Int}(h:Bo g s goal d []):Dst g s goal d:=by
 refine⟨h.bf.len,fun h'=>(by rw[hs] at h';cases h'),fun _=>h.bf.zero,fun v hv=>⟨h.bf.neg v hv,by have:=h.bf.bnd v hv;omega⟩,h.bf.back,fun v hv hsv w hw h0=>?_⟩;have hr:=(hg.row v hv).2 w hw;rcases h.cls w.toNat (by omega) h0 with h1 | h1
 .cases h1
 .exact h1 v hv hsv (by rw[T0 hr.1];exact hw)
theorem shM{g:List (List Int)}{s:List Bool}{goal a:Nat}{d:List Int}(hD:Dst g s goal d)(ha:a<g.length)(h0:0<=d.getD a 0):s.getD goal false=false:=by
 cases h:s.getD goal false with
 | false=>rfl
 | true=>have:=hD.shut h a ha;omega
theorem Dst.le{g:List (List Int)}{s:List Bool}(hg:OkG g s){goal:Nat}{d e:List Int}(hD:Dst g s goal d)(hE:Dst g s goal e):∀(m v:Nat),v<g.length->d.getD v 0=(m:Int)->0<=e.getD v 0/\e.getD v 0<=(m:Int):=by
 intro m;induction m with
 | zero=>
  intro v hv hm;rcases hD.back v hv (by omega) with rfl | ⟨_,w,_,h1,h2⟩
  .rw[hE.zero (shM hD hv (by omega))];exact⟨Int.le_refl _,Int.le_refl _⟩
  .omega
 | succ m ih=>
  intro v hv hm;rcases hD.back v hv (by omega) with rfl | ⟨ho,w,hw,h1,h2⟩
  .rw[hE.zero (shM hD hv (by omega))];omega
  .have hr:=(hg.row v hv).2 w hw;obtain⟨a,b⟩:=ih w.toNat (by omega) (by omega);obtain⟨a',b'⟩:=hE.fwd v hv ho w hw a;exact⟨a',by omega⟩
def Ky(d:List Int)(b w:Int):Int:=if 0<=d.getD w.toNat 0 then (if b<0 then w else if d.getD w.toNat 0<d.getD b.toNat 0 then w else b) else b
def Cs(d r:List Int):Nat->Int | 0=> -1 | i+1=>Ky d (Cs d r i) (r.getD i 0)
def BestOk(d r:List Int)(i:Nat)(b:Int):Prop:=(b = -1/\∀j,j<i->d.getD (r.getD j 0).toNat 0<0)\/ ∃k,k<i/\b=r.getD k 0/\0<=d.getD (r.getD k 0).toNat 0/\(∀j,j<i->0<=d.getD (r.getD j 0).toNat 0->d.getD (r.getD k 0).toNat 0<=d.getD (r.getD j 0).toNat 0)/\∀j,j<k->0<=d.getD (r.getD j 0).toNat 0->d.getD (r.getD k 0).toNat 0<d.getD (r.getD j 0).toNat 0
theorem PQ{d r:List Int}(h0:∀j,j<r.length->0<=r.getD j 0):∀i,i<=r.length->BestOk d r i (Cs d r i):=by
 intro i;induction i with
 | zero=>intro _;exact .inl ⟨rfl,fun j hj=>by omega⟩
 | succ i ih=>
  intro hi;have ih:=ih (by omega);rw[Cs];generalize Cs d r i=b at ih;unfold Ky;by_cases c1:0<=d.getD (r.getD i 0).toNat 0
  .rw[Tv c1];rcases ih with ⟨rfl,hn⟩ | ⟨k,hk,rfl,hk0,hmin,hfst⟩
   .rw[Tv (by decide)];refine .inr ⟨i,by omega,rfl,c1,fun j hj hj0=>?_,fun j hj hj0=>?_⟩
    .by_cases e:j=i
     .rw[e];exact Int.le_refl _
     .have:=hn j (by omega);omega
    .have:=hn j (by omega);omega
   .have:=h0 k (by omega);rw[Tw (by omega)];by_cases c2:d.getD (r.getD i 0).toNat 0<d.getD (r.getD k 0).toNat 0
    .rw[Tv c2];refine .inr ⟨i,by omega,rfl,c1,fun j hj hj0=>?_,fun j hj hj0=>?_⟩
     .by_cases e:j=i
      .rw[e];exact Int.le_refl _
      .have:=hmin j (by omega) hj0;omega
     .have:=hmin j (by omega) hj0;omega
    .rw[Tw c2];refine .inr ⟨k,by omega,rfl,hk0,fun j hj hj0=>?_,hfst⟩;by_cases e:j=i
     .rw[e];omega
     .exact hmin j (by omega) hj0
  .rw[Tw c1];rcases ih with ⟨rfl,hn⟩ | ⟨k,hk,rfl,hk0,hmin,hfst⟩
   .refine .inl ⟨rfl,fun j hj=>?_⟩;by_cases e:j=i
    .rw[e];omega
    .exact hn j (by omega)
   .refine .inr ⟨k,by omega,rfl,hk0,fun j hj hj0=>?_,hfst⟩;by_cases e:j=i
    .rw[e] at hj0;omega
    .exact hmin j (by omega) hj0
theorem OW{g:List (List Int)}{s:List Bool}(hg:OkG g s){v:Nat}(hv:v<g.length):∀j,j<(g.getD v []).length->0<=(g.getD v []).getD j 0:=fun j hj=>by obtain⟨w,hw,_⟩:=F9 hg hv hj;omega
theorem row_mem{g:List (List Int)}{v j:Nat}(hj:j<(g.getD v []).length):(g.getD v []).getD j 0∈g.getD v []:=by rw[Ty (l:=g.getD v []),Tx hj];exact T5 hj
theorem PW{g:List (List Int)}{v:Nat}{w:Int}(h:w∈g.getD v []):∃j,j<(g.getD v []).length/\(g.getD v []).getD j 0=w:=by obtain⟨j,hj,e⟩:=Ua.1 h;exact⟨j,hj,by rw[Ty (l:=g.getD v []),Tx hj];exact e⟩
def thD(g:List (List Int))(d:List Int)(v:Nat)(b:Int):List Int:=if b<0 then [] else (v:Int)::(Uy (d.getD b.toNat 0).toNat).map (wkZ g d b.toNat)
def thZ(g:List (List Int))(s:List Bool)(v:Nat):List Int:=if s.getD v false=true then [] else thD g (AC g s v g.length) v (Cs (AC g s v g.length) (g.getD v []) (g.getD v []).length)
theorem chk_ok{g:List (List Int)}{s:List Bool}(hrw:Rows g){v w:Int}(h:C2 g s v w=0):OkG g s/\Asc g/\(0<=v/\v<(g.length:Int))/\(0<=w/\w<(g.length:Int)):=by
 unfold C2 at h;by_cases h1:24<g.length
 .rw[Tv h1] at h;cases h
 rw[Tw h1] at h;by_cases h2:Ds g=true
 .rw[Tv h2] at h;cases h
 rw[Tw h2] at h;by_cases h3:s.length≠g.length\/v<0\/(g.length:Int)<=v\/w<0\/(g.length:Int)<=w
 .rw[Tv h3] at h;cases h
 have hs:s.length=g.length:=Decidable.byContradiction fun e=>h3 (.inl e)
 have hv0:¬v<0:=fun e=>h3 (.inr (.inl e))
 have hv1:¬(g.length:Int)<=v:=fun e=>h3 (.inr (.inr (.inl e)))
 have hw0:¬w<0:=fun e=>h3 (.inr (.inr (.inr (.inl e))))
 have hw1:¬(g.length:Int)<=w:=fun e=>h3 (.inr (.inr (.inr (.inr e))))
 have hb:∀a,a<g.length->∀i,i<(g.getD a []).length->AK (g.getD a []) g.length a i=false:=by
  intro a ha i hi;have e1:fnd (Cz g) 0 g.length=none:=by unfold Ds at h2;simpa using h2
  have e2:=CC e1 a (TJ _) (by omega);unfold Cz at e2;have e3:fnd (AK (g.getD a []) g.length a) 0 (g.getD a []).length=none:=by simpa using e2
  exact CC e3 i (TJ _) (by omega)
 refine⟨⟨by omega,fun a ha=>⟨hrw a ha,fun x hx=>?_⟩,hs⟩,fun a ha i h0 hi=>?_,⟨by omega,by omega⟩,⟨by omega,by omega⟩⟩
 .obtain⟨i,hi,rfl⟩:=Ua.1 hx;have hbad:=hb a ha i hi;have e:(g.getD a []).getD i 0=(g.getD a [])[i]:=by rw[Ty (l:=g.getD a []),Tx hi];rfl
  unfold AK at hbad;rw[e] at hbad;simp only[Bool.or_eq_false_iff,decide_eq_false_iff_not,T8,ne_eq] at hbad;exact⟨by omega,by omega,hbad.2.2.1⟩
 .have hbad:=hb a ha i hi;unfold AK at hbad;rw[TD h0,Bool.true_and] at hbad;simp only[Bool.or_eq_false_iff,decide_eq_false_iff_not] at hbad;omega
def Ah(g:List (List Int))(s:List Bool)(v w:Int):List Int×Int:=if C2 g s v w=0 then (if (AC g s w.toNat g.length).getD v.toNat 0<0 then ([],0) else (wkL g (AC g s w.toNat g.length) v.toNat ((AC g s w.toNat g.length).getD v.toNat 0).toNat,0)) else ([],C2 g s v w)
theorem toN{v:Int}(h:0<=v):((v.toNat:Nat):Int)=v:=T0 h
theorem shutNeg{g:List (List Int)}{s:List Bool}{goal a:Nat}{d:List Int}(hD:Dst g s goal d)(ha:a<g.length)(h0:0<=d.getD a 0):s.getD goal false=false:=by
 cases h:s.getD goal false with
 | false=>rfl
 | true=>have:=hD.shut h a ha;omega
theorem first_ct{g:List (List Int)}{s:List Bool}(hg:OkG g s)(a goal:Nat)(hal:a<g.length)(hgo:goal<g.length):CT UB 126 [] [.lst (gL g),.lst (boL s),.int .i64 (a:Nat),.int .i64 (goal:Nat)] [] (lI (if (AC g s goal g.length).getD a 0<0 then [] else wkL g (AC g s goal g.length) a ((AC g s goal g.length).getD a 0).toNat)):=by
 have hb:Try.f126.body=some (zB Try.f126):=by kernel_rfl
 have hn:[UA (gL g),.lst (boL s),.int .i64 (a:Nat),.int .i64 (goal:Nat)].length<=Try.f126.ntmps:=nL rfl;have hgl:=hg.len;have cd:=K6 hg goal hgo;rw[MR hg hgo] at cd;have ch:=rhops_ct hg goal hgo;have hD:=FG hg hgo;have hbd:=hD.bnd a hal;generalize AC g s goal g.length=d at cd ch hD hbd;have hda:=Bu (l:=d) (j:=a) (by rw[hD.len];exact hal);by_cases hneg:d.getD a 0<0
 .rw[Tv hneg];exact CT.pathW mix Try.func126 hb hn (rfn_0 ⟨g,s,d,a,goal,0,0,[],d.getD a 0,0,false,0,[],[]⟩ cd (by simp[iN]) hda (TD hneg)) rfl
 .rw[Tw hneg];obtain⟨m,hm⟩:∃m:Nat,d.getD a 0=(m:Int):=⟨(d.getD a 0).toNat,(toN (by omega)).symm⟩;have hgd:=shutNeg hD hal (by omega);have hok:=J4 hg hgo hD hal hm hgd;rw[hm,TG];refine CT.path mix Try.func126 hb hn (rf_0 ⟨g,s,d,a,goal,0,0,[],d.getD a 0,0,false,0,BG g d,[]⟩ cd (by simp[iN]) hda (TC hneg) ch ?_);have key:T UB 0 (.loop (zC (zB Try.f126) 0)) (GN ⟨g,s,d,(wkZ g d a 0).toNat,goal,0,0,wkL g d a 0,0,0,false,0,BG g d,[]⟩) (TK UB 0 (Fin UB Try.f126 0 [] (lI (wkL g d a m))) (zK (zB Try.f126) 0)):=by
   refine T.loop (fun k:Nat=>GN ⟨g,s,d,(wkZ g d a k).toNat,goal,0,k,wkL g d a k,0,0,false,0,BG g d,[]⟩) (fun k=>k<=m) (fun k=>m+1-k) 0 (TJ _) ?_;intro k hk;obtain⟨w1,w2,w3⟩:=hok k hk;have hlen:=Jv g d a k;by_cases h:k<m
   .obtain⟨x1,x2,x3⟩:=hok (k+1) h;have hne:(wkZ g d a k).toNat≠goal:=by intro e;rw[e,hD.zero hgd] at w3;omega
    have hgt:(BG g d).getD (wkZ g d a k).toNat 0=wkZ g d a (k+1):=by
     have hlt:(wkZ g d a k).toNat<g.length:=by omega
     simp[BG,Ty,TW hlt,wkZ]
    have hg2:=Bu (l:=BG g d) (j:=(wkZ g d a k).toNat) (by simp[BG];omega);rw[hgt,<-toN x1] at hg2;refine T.path mix (rfe_0 ⟨g,s,d,(wkZ g d a k).toNat,goal,(wkZ g d a (k+1)).toNat,k,wkL g d a k,0,0,false,0,BG g d,[]⟩ (by simp[iN];omega) (Int.natCast_nonneg _) hg2 (by simp[hlen]) (by simp) (by simp[hlen];omega) (by simp[hlen];omega) ?_);intro st hst;refine⟨k+1,?_,h,by omega⟩;have e2:∀y:AV,((wkL g d a k).map (AV.int .i64)).length+[y].length=k+1+1:=by intro y;simp[hlen]
    have e3:(wkL g d a (k+1)).map (AV.int .i64)=(wkL g d a k).map (AV.int .i64)++[.int .i64 (((wkZ g d a (k+1)).toNat:Nat):Int)]:=by rw[PI,TM,toN x1];rfl
    simp only[e2] at hst;show Ren 0 st (GN ⟨g,s,d,(wkZ g d a (k+1)).toNat,goal,0,k+1,wkL g d a (k+1),0,0,false,0,BG g d,[]⟩);unfold GN dB;simp only[e3];exact hst
   .obtain rfl:k=m:=by omega
    have he:(wkZ g d a k).toNat=goal:=JU hD (by omega) (by rw[w3];omega);exact T.out mix (rfex_0 ⟨g,s,d,(wkZ g d a k).toNat,goal,0,k,wkL g d a k,0,0,false,0,BG g d,[]⟩ (by simp[iN,he]) (by simp[hlen]))
  exact key
structure QE where
 g:List (List Int)
 s:List Bool
 v:Int
 p:List Int
 o:List Int
 d:List Int
 r:List Int
 e:Int
 i:Nat
 a:Nat
 w:Nat
 x:Int
 y:Int
 z:Int
 bz:Int
 b:Bool
 sb:Bool
def cE(q:QE):Nat->FuncId->List AV->List (Option Blk)->AG:=fun dst f args hp=>match f with
 | 134=>.call [] [] [] (.int .i64 q.e)
 | 135=>.call [] [] [] (lI q.p)
 | 26=>.call [] [] [] (.bool q.b)
 | 125=>.call [] [] [] (lI q.d)
 | 126=>.call [] [] [] (lI q.p)
 | _=>.no
def eN(q:QE):List (Nat×AV):=[]
def st13(q:QE):St:={n:=Try.f103.ntmps,fr:=[(0,.lst (gL q.g)),(1,.lst (boL q.s))],hp:=[]}
def FI(q:QE):St:={n:=Try.f103.ntmps,fr:=[(0,.lst (gL q.g)),(1,.lst (boL q.s)),(8,lI q.o),(9,.int .i64 (iN q.i))],hp:=[]}
def st26(q:QE):St:={n:=Try.f135.ntmps,fr:=[(0,.lst (gL q.g)),(1,.lst (boL q.s)),(2,.int .i64 (iN q.a))],hp:=[]}
def D1(q:QE):St:={n:=Try.f135.ntmps,fr:=[(0,.lst (gL q.g)),(1,.lst (boL q.s)),(2,.int .i64 (iN q.a)),(7,lI q.d),(8,.int .i64 q.bz),(9,.int .i64 (iN q.i))],hp:=[]}
def e26(q:QE):List (Nat×AV):=[(14,.bool q.sb),(23,lI q.r),(31,lI q.r),(34,.int .i64 (iN q.w)),(38,.int .i64 q.x),(47,.int .i64 q.x),(51,.int .i64 q.y)]
theorem rgi_0(q:QE)(h1:(CT UB 134 [] [UA (gL q.g),UA (boL q.s)] [] (iv q.e)))(h2:((q.e != 0)=true)):GoP UB (hU [31] (eN q) (cE q)) 0 (zB Try.f103) (st13 q) (Fin UB Try.f103 0 [] (AV.tup [iv 0,AV.nils,iv q.e])):=zF (σ:=[]) (fz:=[]) (by kernel_rfl) (aj (aj t4 (aj (u2 (u2 (aj (ak (k3 (al h1))) s2))) (aj (u2 s2) (aj h2 (al (u2 (k2 s2))))))) (al t4))
theorem rgi_1(q:QE)(h1:(CT UB 134 [] [UA (gL q.g),UA (boL q.s)] [] (iv q.e)))(h2:((q.e != 0)=false)){post:Exit->St->Prop}(ht:T UB 0 (.loop (zC (zB Try.f103) 0)) (St.mk 46 [(0,UA (gL q.g)),(1,UA (boL q.s)),(8,AV.nils),(9,iv 0)] []) (TK UB 0 post (zK (zB Try.f103) 0))):GoP UB (hU [30] (eN q) (cE q)) 0 (zB Try.f103) (st13 q) post:=zR (σ:=[]) (fz:=[]) (vars:=[0,1,8,9]) (by kernel_rfl) (aj (aj t4 (aj (u2 (u2 (aj (ak (k3 (al h1))) s2))) (aj (u2 s2) (aj h2 (u2 s2))))) t5) ht
theorem rgx_0(q:QE)(h1:(decide (iN q.i<iN (gL q.g).length)=false)):GoO UB (hU [40] (eN q) (cE q)) 0 (zC (zB Try.f103) 0) (zK (zB Try.f103) 0) (FI q) (Fin UB Try.f103 0 [] (AV.tup [iv (iN (Uu iv q.o).length),UA (Uu iv q.o),iv 0])):=zF (σ:=[]) (fz:=[]) (by kernel_rfl) (aj (aj (aj (u2 (u2 (u2 (al t3)))) (al h1)) (al (u2 (u2 (u2 (u2 (u2 t2))))))) (al t4))
theorem rgr_0(q:QE)(h1:(decide (iN q.i<iN (gL q.g).length)=true))(h2:(CT UB 135 [] [UA (gL q.g),UA (boL q.s),iv (iN q.i)] [] (UA (Uu iv q.p))))(h3:(decide (0<iN (Uu iv q.p).length)=true))(h4:((iN (Uu iv q.o).length==0)=true)){post:Exit->St->Prop}{R:St->Prop}(hR:∀st,Ren 0 st (St.mk 46 [(0,UA (gL q.g)),(1,UA (boL q.s)),(8,UA (Uu iv q.p)),(9,iv (i64.wrap (iN q.i+1)))] [])->R st):GoP UB (hU [41,61,69] (eN q) (cE q)) 0 (zC (zB Try.f103) 0) (FI q) (andThen R post):=zN (σ:=[]) (fz:=[]) (vars:=[0,1,8,9]) (by kernel_rfl) (aj (aj (u2 (u2 (u2 (al t3)))) (aj h1 (aj (u2 (u2 (u2 (aj (ak (k5 (al h2))) s2)))) (aj (u2 (u2 (u2 (u2 (ag h3 (ag h3 (ag h3 (ag h3 (aj h4 (aj h4 (aj h4 (aj h4 (aj h4 (aj (aj h3 (aj h4 t2)) (al (aj h3 t2)))))))))))))))) (ak (aj (u2 s2) (al (u2 (u2 s2))))))))) t5) hR
theorem rgr_1(q:QE)(h1:(decide (iN q.i<iN (gL q.g).length)=true))(h2:(CT UB 135 [] [UA (gL q.g),UA (boL q.s),iv (iN q.i)] [] (UA (Uu iv q.p))))(h3:(decide (0<iN (Uu iv q.p).length)=true))(h4:((iN (Uu iv q.o).length==0)=false))(h5:(decide (iN (Uu iv q.p).length<iN (Uu iv q.o).length)=true)){post:Exit->St->Prop}{R:St->Prop}(hR:∀st,Ren 0 st (St.mk 46 [(0,UA (gL q.g)),(1,UA (boL q.s)),(8,UA (Uu iv q.p)),(9,iv (i64.wrap (iN q.i+1)))] [])->R st):GoP UB (hU [41,61,68,83] (eN q) (cE q)) 0 (zC (zB Try.f103) 0) (FI q) (andThen R post):=zN (σ:=[]) (fz:=[]) (vars:=[0,1,8,9]) (by kernel_rfl) (aj (aj (u2 (u2 (u2 (al t3)))) (aj h1 (aj (u2 (u2 (u2 (aj (ak (k5 (al h2))) s2)))) (aj (u2 (u2 (u2 (u2 (ag h3 (ag h3 (ag h3 (ag h3 (ag h4 (ag h4 (ag h4 (ag h4 (aj (aj h4 t3) (aj (aj h3 (aj h4 t2)) (al (aj h3 t2)))))))))))))))) (aj h5 (aj (u2 s2) (al (u2 (u2 s2))))))))) t5) hR
theorem rgr_2(q:QE)(h1:(decide (iN q.i<iN (gL q.g).length)=true))(h2:(CT UB 135 [] [UA (gL q.g),UA (boL q.s),iv (iN q.i)] [] (UA (Uu iv q.p))))(h3:(decide (0<iN (Uu iv q.p).length)=true))(h4:((iN (Uu iv q.o).length==0)=false))(h5:(decide (iN (Uu iv q.p).length<iN (Uu iv q.o).length)=false)){post:Exit->St->Prop}{R:St->Prop}(hR:∀st,Ren 0 st (St.mk 46 [(0,UA (gL q.g)),(1,UA (boL q.s)),(8,UA (Uu iv q.o)),(9,iv (i64.wrap (iN q.i+1)))] [])->R st):GoP UB (hU [41,61,68,82] (eN q) (cE q)) 0 (zC (zB Try.f103) 0) (FI q) (andThen R post):=zN (σ:=[]) (fz:=[]) (vars:=[0,1,8,9]) (by kernel_rfl) (aj (aj (u2 (u2 (u2 (al t3)))) (aj h1 (aj (u2 (u2 (u2 (aj (ak (k5 (al h2))) s2)))) (aj (u2 (u2 (u2 (u2 (ag h3 (ag h3 (ag h3 (ag h3 (ag h4 (ag h4 (ag h4 (ag h4 (aj (aj h4 t3) (aj (aj h3 (aj h4 t2)) (al (aj h3 t2)))))))))))))))) (aj h5 (al (u2 (u2 s2)))))))) t5) hR
theorem rgr_3(q:QE)(h1:(decide (iN q.i<iN (gL q.g).length)=true))(h2:(CT UB 135 [] [UA (gL q.g),UA (boL q.s),iv (iN q.i)] [] (UA (Uu iv q.p))))(h3:(decide (0<iN (Uu iv q.p).length)=false)){post:Exit->St->Prop}{R:St->Prop}(hR:∀st,Ren 0 st (St.mk 46 [(0,UA (gL q.g)),(1,UA (boL q.s)),(8,UA (Uu iv q.o)),(9,iv (i64.wrap (iN q.i+1)))] [])->R st):GoP UB (hU [41,60] (eN q) (cE q)) 0 (zC (zB Try.f103) 0) (FI q) (andThen R post):=zN (σ:=[]) (fz:=[]) (vars:=[0,1,8,9]) (by kernel_rfl) (aj (aj (u2 (u2 (u2 (al t3)))) (aj h1 (aj (u2 (u2 (u2 (aj (ak (k5 (al h2))) s2)))) (aj (u2 (u2 (u2 (u2 (aj h3 (aj h3 (aj h3 (aj h3 (k5 (aj h3 (al (aj h3 t2)))))))))))) (ak (al (u2 (u2 s2)))))))) t5) hR
theorem rwz_0(q:QE)(h1:(0<=iN q.a))(h2:((boL q.s)[(iN q.a).toNat]?=some (AV.bool q.sb)))(h3:(q.sb=true)):GoP UB (hU [31] (e26 q) (cE q)) 0 (zB Try.f135) (st26 q) (Fin UB Try.f135 0 [] (AV.nils)):=zF (σ:=[]) (fz:=[]) (by kernel_rfl) (aj (u2 (aj (u2 (u2 (aj (k2 (aj h1 h2)) s2))) (aj h3 s2))) t2)
theorem rw_0(q:QE)(h1:(0<=iN q.a))(h2:((boL q.s)[(iN q.a).toNat]?=some (AV.bool q.sb)))(h3:(q.sb=false))(h4:(CT UB 125 [] [UA (gL q.g),UA (boL q.s),iv (iN q.a)] [] (UA (Uu iv q.d)))){post:Exit->St->Prop}(ht:T UB 0 (.loop (zC (zB Try.f135) 0)) (St.mk 72 [(0,UA (gL q.g)),(1,UA (boL q.s)),(2,iv (iN q.a)),(7,UA (Uu iv q.d)),(8,iv (-1)),(9,iv 0)] []) (TK UB 0 post (zK (zB Try.f135) 0))):GoP UB (hU [30] (e26 q) (cE q)) 0 (zB Try.f135) (st26 q) post:=zR (σ:=[]) (fz:=[]) (vars:=[0,1,2,7,8,9]) (by kernel_rfl) (aj (u2 (aj (u2 (u2 (aj (k2 (aj h1 h2)) s2))) (aj h3 (aj (u2 (u2 (u2 (aj (ak (k5 (al h4))) s2)))) (u2 s2))))) t7) ht
theorem rwr_0(q:QE)(h1:(0<=iN q.a))(h2:((gL q.g)[(iN q.a).toNat]?=some (UA (Uu iv q.r))))(h3:(decide (iN q.i<iN (Uu iv q.r).length)=true))(h4:(0<=iN q.i))(h5:((Uu iv q.r)[(iN q.i).toNat]?=some (iv (iN q.w))))(h6:(0<=iN q.w))(h7:((Uu iv q.d)[(iN q.w).toNat]?=some (iv q.x)))(h8:(decide (0<=q.x)=true))(h9:(decide (q.bz<0)=true)){post:Exit->St->Prop}{R:St->Prop}(hR:∀st,Ren 0 st (St.mk 72 [(0,UA (gL q.g)),(1,UA (boL q.s)),(2,iv (iN q.a)),(7,UA (Uu iv q.d)),(8,iv (iN q.w)),(9,iv (i64.wrap (iN q.i+1)))] [])->R st):GoP UB (hU [53,83,89] (e26 q) (cE q)) 0 (zC (zB Try.f135) 0) (D1 q) (andThen R post):=zN (σ:=[]) (fz:=[]) (vars:=[0,1,2,7,8,9]) (by kernel_rfl) (aj (aj (u2 (u2 (u2 (aj (k2 (aj h1 h2)) (u2 (u2 (al t3))))))) (aj h3 (aj (u2 (u2 (aj (k2 (aj h1 h2)) (u2 (u2 (aj (k2 (aj h4 h5)) (u2 s2))))))) (aj (u2 (u2 (aj (k2 (aj h6 h7)) (u2 (u2 (u2 (ag h8 (ag h8 (ag h8 (aj h9 (aj h9 (aj h9 (aj h9 (aj h9 (aj h9 (aj h9 (aj h9 (aj h9 (aj (aj h8 (aj h9 t2)) (al (aj h8 t2))))))))))))))))))))) (ak (aj (u2 s2) (al (u2 (u2 s2))))))))) t7) hR
theorem rwr_1(q:QE)(h1:(0<=iN q.a))(h2:((gL q.g)[(iN q.a).toNat]?=some (UA (Uu iv q.r))))(h3:(decide (iN q.i<iN (Uu iv q.r).length)=true))(h4:(0<=iN q.i))(h5:((Uu iv q.r)[(iN q.i).toNat]?=some (iv (iN q.w))))(h6:(0<=iN q.w))(h7:((Uu iv q.d)[(iN q.w).toNat]?=some (iv q.x)))(h8:(decide (0<=q.x)=true))(h9:(decide (q.bz<0)=false))(h10:(0<=q.bz))(h11:((Uu iv q.d)[q.bz.toNat]?=some (iv q.y)))(h12:(decide (q.x<q.y)=true)){post:Exit->St->Prop}{R:St->Prop}(hR:∀st,Ren 0 st (St.mk 72 [(0,UA (gL q.g)),(1,UA (boL q.s)),(2,iv (iN q.a)),(7,UA (Uu iv q.d)),(8,iv (iN q.w)),(9,iv (i64.wrap (iN q.i+1)))] [])->R st):GoP UB (hU [53,83,88,111] (e26 q) (cE q)) 0 (zC (zB Try.f135) 0) (D1 q) (andThen R post):=zN (σ:=[]) (fz:=[]) (vars:=[0,1,2,7,8,9]) (by kernel_rfl) (aj (aj (u2 (u2 (u2 (aj (k2 (aj h1 h2)) (u2 (u2 (al t3))))))) (aj h3 (aj (u2 (u2 (aj (k2 (aj h1 h2)) (u2 (u2 (aj (k2 (aj h4 h5)) (u2 s2))))))) (aj (u2 (u2 (aj (k2 (aj h6 h7)) (u2 (u2 (u2 (ag h8 (ag h8 (ag h8 (ag h9 (ag h9 (aj (aj h9 (k2 (aj h6 h7))) (ag h9 (ag h9 (ag h9 (aj (aj h9 (k2 (aj h10 h11))) (ag h9 (aj (aj h9 t3) (aj (aj h8 (aj h9 t2)) (al (aj h8 t2))))))))))))))))))))) (aj h12 (aj (u2 s2) (al (u2 (u2 s2))))))))) t7) hR
theorem rwr_2(q:QE)(h1:(0<=iN q.a))(h2:((gL q.g)[(iN q.a).toNat]?=some (UA (Uu iv q.r))))(h3:(decide (iN q.i<iN (Uu iv q.r).length)=true))(h4:(0<=iN q.i))(h5:((Uu iv q.r)[(iN q.i).toNat]?=some (iv (iN q.w))))(h6:(0<=iN q.w))(h7:((Uu iv q.d)[(iN q.w).toNat]?=some (iv q.x)))(h8:(decide (0<=q.x)=true))(h9:(decide (q.bz<0)=false))(h10:(0<=q.bz))(h11:((Uu iv q.d)[q.bz.toNat]?=some (iv q.y)))(h12:(decide (q.x<q.y)=false)){post:Exit->St->Prop}{R:St->Prop}(hR:∀st,Ren 0 st (St.mk 72 [(0,UA (gL q.g)),(1,UA (boL q.s)),(2,iv (iN q.a)),(7,UA (Uu iv q.d)),(8,iv q.bz),(9,iv (i64.wrap (iN q.i+1)))] [])->R st):GoP UB (hU [53,83,88,110] (e26 q) (cE q)) 0 (zC (zB Try.f135) 0) (D1 q) (andThen R post):=zN (σ:=[]) (fz:=[]) (vars:=[0,1,2,7,8,9]) (by kernel_rfl) (aj (aj (u2 (u2 (u2 (aj (k2 (aj h1 h2)) (u2 (u2 (al t3))))))) (aj h3 (aj (u2 (u2 (aj (k2 (aj h1 h2)) (u2 (u2 (aj (k2 (aj h4 h5)) (u2 s2))))))) (aj (u2 (u2 (aj (k2 (aj h6 h7)) (u2 (u2 (u2 (ag h8 (ag h8 (ag h8 (ag h9 (ag h9 (aj (aj h9 (k2 (aj h6 h7))) (ag h9 (ag h9 (ag h9 (aj (aj h9 (k2 (aj h10 h11))) (ag h9 (aj (aj h9 t3) (aj (aj h8 (aj h9 t2)) (al (aj h8 t2))))))))))))))))))))) (aj h12 (al (u2 (u2 s2)))))))) t7) hR
theorem rwr_3(q:QE)(h1:(0<=iN q.a))(h2:((gL q.g)[(iN q.a).toNat]?=some (UA (Uu iv q.r))))(h3:(decide (iN q.i<iN (Uu iv q.r).length)=true))(h4:(0<=iN q.i))(h5:((Uu iv q.r)[(iN q.i).toNat]?=some (iv (iN q.w))))(h6:(0<=iN q.w))(h7:((Uu iv q.d)[(iN q.w).toNat]?=some (iv q.x)))(h8:(decide (0<=q.x)=false)){post:Exit->St->Prop}{R:St->Prop}(hR:∀st,Ren 0 st (St.mk 72 [(0,UA (gL q.g)),(1,UA (boL q.s)),(2,iv (iN q.a)),(7,UA (Uu iv q.d)),(8,iv q.bz),(9,iv (i64.wrap (iN q.i+1)))] [])->R st):GoP UB (hU [53,82] (e26 q) (cE q)) 0 (zC (zB Try.f135) 0) (D1 q) (andThen R post):=zN (σ:=[]) (fz:=[]) (vars:=[0,1,2,7,8,9]) (by kernel_rfl) (aj (aj (u2 (u2 (u2 (aj (k2 (aj h1 h2)) (u2 (u2 (al t3))))))) (aj h3 (aj (u2 (u2 (aj (k2 (aj h1 h2)) (u2 (u2 (aj (k2 (aj h4 h5)) (u2 s2))))))) (aj (u2 (u2 (aj (k2 (aj h6 h7)) (u2 (u2 (u2 (aj h8 (aj h8 (aj h8 (ak (k3 (k5 (aj h8 (al (aj h8 t2))))))))))))))) (ak (al (u2 (u2 s2)))))))) t7) hR
theorem rwx_0(q:QE)(h1:(0<=iN q.a))(h2:((gL q.g)[(iN q.a).toNat]?=some (UA (Uu iv q.r))))(h3:(decide (iN q.i<iN (Uu iv q.r).length)=false))(h4:(decide (q.bz<0)=true)):GoO UB (hU [52,117] (e26 q) (cE q)) 0 (zC (zB Try.f135) 0) (zK (zB Try.f135) 0) (D1 q) (Fin UB Try.f135 0 [] (AV.nils)):=zF (σ:=[]) (fz:=[0,1]) (by kernel_rfl) (aj (aj (aj (u2 (u2 (u2 (aj (k2 (aj h1 h2)) (u2 (u2 (al t3))))))) (al h3)) (aj (u2 s2) (aj h4 s2))) t2)
theorem rwx_1(q:QE)(h1:(0<=iN q.a))(h2:((gL q.g)[(iN q.a).toNat]?=some (UA (Uu iv q.r))))(h3:(decide (iN q.i<iN (Uu iv q.r).length)=false))(h4:(decide (q.bz<0)=false))(h5:(CT UB 126 [] [UA (gL q.g),UA (boL q.s),iv q.bz,iv (iN q.a)] [] (UA (Uu iv q.p))))(h6:(∀(e:AV),e∈Uu iv q.p->e.cells.length=1))(h7:(0<=i64.wrap (iN (Uu iv q.p).length-1)))(h8:(i64.wrap (iN (Uu iv q.p).length-1)<=iN (Uu iv q.p).length))(h9:(iN (Uu iv q.p).length<=iN (Uu iv q.p).length))(h10:([iv (iN q.a)].length=1))(h11:(∀(e:AV),e∈List.take ((i64.wrap (iN (Uu iv q.p).length-1)).toNat-Uz 0) (List.drop (Uz 0) (Uu iv q.p))->e.cells.length=1))(h12:([iv (iN q.a)].length+(List.take ((i64.wrap (iN (Uu iv q.p).length-1)).toNat-Uz 0) (List.drop (Uz 0) (Uu iv q.p))).length<=9223372036854775807))(h13:(([iv (iN q.a)].length+(List.take ((i64.wrap (iN (Uu iv q.p).length-1)).toNat-Uz 0) (List.drop (Uz 0) (Uu iv q.p))).length) * 8<=140737488355328))(h14:([iv (iN q.a)].length+(List.take ((i64.wrap (iN (Uu iv q.p).length-1)).toNat-Uz 0) (List.drop (Uz 0) (Uu iv q.p))).length=(iv (iN q.a)::List.append._f [] PUnit.unit (List.take ((i64.wrap (iN (Uu iv q.p).length-1)).toNat-Uz 0) (List.drop (Uz 0) (Uu iv q.p)))).length)):GoO UB (hU [52,116] (e26 q) (cE q)) 0 (zC (zB Try.f135) 0) (zK (zB Try.f135) 0) (D1 q) (Fin UB Try.f135 0 [] (UA (iv (iN q.a)::List.append._f [] PUnit.unit (List.take ((i64.wrap (iN (Uu iv q.p).length-1)).toNat-Uz 0) (List.drop (Uz 0) (Uu iv q.p)))))):=zF (σ:=[]) (fz:=[0,1]) (by kernel_rfl) (aj (aj (aj (u2 (u2 (u2 (aj (k2 (aj h1 h2)) (u2 (u2 (al t3))))))) (al h3)) (aj (u2 s2) (aj h4 (aj (u2 (u2 (u2 (u2 (aj (k3 (k5 (al h5))) s2))))) (al (u2 (u2 (u2 (u2 (u2 (u2 (aj (k2 (aj h6 (aj (Int.le_refl 0) (aj h7 (aj h8 h9))))) (aj (k2 (aj h10 (aj h11 (aj h12 h13)))) s2))))))))))))) (al h14))
def Em(r:List Int)(n v i:Nat):Bool:=decide (r.getD i 0<=BX r i)||(decide ((n:Int)<=r.getD i 0)||r.getD i 0==(v:Int))
theorem QU{r:List Int}{n v:Nat}:(fnd (Em r n v) 0 r.length).isSome=(fnd (AK r n v) 0 r.length).isSome:=by
 have up:∀i,Em r n v i=true->AK r n v i=true:=by
  intro i h;unfold Em BX at h;unfold AK;simp only[T9,TF,decide_eq_true_eq,beq_iff_eq] at h ⊢
  rcases h with h | h | h
  .split at h
   .exact .inl (by omega)
   .exact .inr (.inr (.inr ⟨by omega,h⟩))
  .exact .inr (.inl h)
  .exact .inr (.inr (.inl h))
 have dn:∀i,AK r n v i=true->∃j,j<=i/\Em r n v j=true:=by
  intro i;induction i with
  | zero=>
   intro h;refine⟨0,TI _,?_⟩;unfold AK at h;unfold Em BX;simp only[T9,TF,decide_eq_true_eq,beq_iff_eq] at h ⊢
   rcases h with h | h | h | ⟨h,_⟩
   .exact .inl (show r.getD 0 0<=(-1:Int) by omega)
   .exact .inr (.inl h)
   .exact .inr (.inr h)
   .omega
  | succ i ih=>
   intro h;by_cases hl:Em r n v (i+1)=true
   .exact⟨i+1,TI _,hl⟩
   .have hneg:AK r n v i=true:=by
     unfold Em BX at hl;unfold AK at h ⊢
     simp only[T9,TF,decide_eq_true_eq,beq_iff_eq,not_or] at h hl ⊢
     rw[Tw (by omega)] at hl;rcases h with h | h | h | ⟨_,h⟩
     .simp only[Th] at hl;exact .inl (by omega)
     .exact absurd h hl.2.1
     .exact absurd h hl.2.2
     .exact absurd h hl.1
    obtain⟨j,hj,h2⟩:=ih hneg;exact⟨j,by omega,h2⟩
 cases h1:fnd (Em r n v) 0 r.length with
 | none=>
  cases h2:fnd (AK r n v) 0 r.length with
  | none=>rfl
  | some i=>obtain⟨a,_,b⟩:=D0 h2;obtain⟨j,hj,hb⟩:=dn i a;have:=CC h1 j (TJ _) (by omega);rw[hb] at this;cases this
 | some i=>
  cases h2:fnd (AK r n v) 0 r.length with
  | some _=>rfl
  | none=>obtain⟨a,_,b⟩:=D0 h1;have:=CC h2 i (TJ _) (by omega);rw[up i a] at this;cases this
theorem IV{g:List (List Int)}{s:List Bool}(hrw:Rows g)(h:DD g s=0):OkG g s/\Asc g:=by
 unfold DD at h;by_cases h1:24<g.length
 .rw[Tv h1] at h;cases h
 rw[Tw h1] at h;by_cases h2:Ds g=true
 .rw[Tv h2] at h;cases h
 rw[Tw h2] at h;by_cases h3:s.length=g.length
 .have hb:∀a,a<g.length->∀i,i<(g.getD a []).length->AK (g.getD a []) g.length a i=false:=by
   intro a ha i hi;have e1:fnd (Cz g) 0 g.length=none:=by unfold Ds at h2;simpa using h2
   have e2:=CC e1 a (TJ _) (by omega);unfold Cz at e2;have e3:fnd (AK (g.getD a []) g.length a) 0 (g.getD a []).length=none:=by simpa using e2
   exact CC e3 i (TJ _) (by omega)
  refine⟨⟨by omega,fun a ha=>⟨hrw a ha,fun x hx=>?_⟩,h3⟩,fun a ha i h0 hi=>?_⟩
  .obtain⟨i,hi,rfl⟩:=PW hx;have hbad:=hb a ha i hi;unfold AK at hbad;simp only[Bool.or_eq_false_iff,decide_eq_false_iff_not,T8,ne_eq] at hbad;exact⟨by omega,by omega,hbad.2.2.1⟩
  .have hbad:=hb a ha i hi;unfold AK at hbad;rw[TD h0,Bool.true_and] at hbad;simp only[Bool.or_eq_false_iff,decide_eq_false_iff_not] at hbad;omega
 .rw[Tv h3] at h;cases h
theorem wkL_take(g:List (List Int))(d:List Int)(a k:Nat):(wkL g d a k).take k=(Uy k).map (wkZ g d a):=by unfold wkL;rw[<-List.map_take,List.take_range,Nat.min_eq_left (by omega)]
theorem SI{g:List (List Int)}{s:List Bool}(hg:OkG g s)(v:Nat)(hv:v<g.length):CT UB 135 [] [.lst (gL g),.lst (boL s),.int .i64 (v:Nat)] [] (lI (thZ g s v)):=by
 have hgl:=hg.len;have hl:=BD g;have hsv:=Gq (s:=s) (v:=v) (by rw[hg.sh];exact hv);have hb:Try.f135.body=some (zB Try.f135):=by kernel_rfl
 have hn:[UA (gL g),.lst (boL s),.int .i64 (v:Nat)].length<=Try.f135.ntmps:=nL rfl;unfold thZ;by_cases hso:s.getD v false=true
 .rw[Tv hso];exact CT.pathW mix Try.func135 hb hn (rwz_0 ⟨g,s,0,[],[],[],[],0,0,v,0,0,0,0,0,false,s.getD v false⟩ (by simp[iN]) hsv hso) rfl
 .rw[Tw hso];have hso:=Uk.2 hso;have c1:=K6 hg v hv;rw[MR hg hv] at c1;have hD:=FG hg hv;have hfirst:∀w,w<g.length->0<=(AC g s v g.length).getD w 0->CT UB 126 [] [.lst (gL g),.lst (boL s),.int .i64 (w:Nat),.int .i64 (v:Nat)] [] (lI (wkL g (AC g s v g.length) w ((AC g s v g.length).getD w 0).toNat)):=by
   intro w hw h0;have:=first_ct hg w v hw hv
   rwa [Tw (by omega)] at this
  generalize AC g s v g.length=d at c1 hD hfirst;have hbo:=fun i=>PQ (d:=d) (OW hg hv) i
  have hr1:=(hg.row v hv).1;have hrow:=CX hv;have hget:=fun i=>F9 hg hv (i:=i)
  generalize g.getD v []=r at hbo hr1 hrow hget;have hrl:=BV r;have hbr:∀i,i<=r.length->Cs d r i = -1\/∃b:Nat,Cs d r i=(b:Int)/\b<g.length/\0<=d.getD b 0:=by
   intro i hi;rcases hbo i hi with h | ⟨k,hk,h,h0,_⟩
   .exact .inl h.1
   .obtain⟨w,hw,hw1,_⟩:=hget k (by omega);rw[hw,TG] at h0;exact .inr ⟨w,by rw[h,hw],hw1,h0⟩
  have run:∀res,(Cs d r r.length = -1->res = .nils)->(∀b:Nat,Cs d r r.length=(b:Int)->res=lI ((v:Int)::(Uy (d.getD b 0).toNat).map (wkZ g d b)))->
    T UB 0 (.loop (zC (zB Try.f135) 0)) (D1 ⟨g,s,0,[],[],d,r,0,0,v,0,0,0,0,-1,false,false⟩) (TK UB 0 (Fin UB Try.f135 0 [] res) (zK (zB Try.f135) 0)):=by
   intro res hnil hsome;refine T.loop (fun i:Nat=>D1 ⟨g,s,0,[],[],d,r,0,i,v,0,0,0,0,Cs d r i,false,false⟩) (fun i=>i<=r.length) (fun i=>r.length+1-i) 0 (TJ _) ?_;intro i hi;by_cases h:i<r.length
   .obtain⟨w,hw,hw1,hw2⟩:=hget i h;have hg1:=Bu h;rw[hw] at hg1;have hdw:=Bu (l:=d) (j:=w) (by rw[hD.len];omega);have dk:decide (iN i<iN (r.map (AV.int .i64)).length)=true:=TD (by simp only[iN,hrl];omega);have wi:i64.wrap (iN i+1)=((i+1:Nat):Int):=zW i (by omega);have hstep:Cs d r (i+1)=Ky d (Cs d r i) (w:Int):=by rw[Cs,hw]
    unfold Ky at hstep;rw[TG] at hstep;have next:∀st,Ren 0 st (D1 ⟨g,s,0,[],[],d,r,0,i+1,v,0,0,0,0,Cs d r (i+1),false,false⟩)->∃j,Ren 0 st (D1 ⟨g,s,0,[],[],d,r,0,j,v,0,0,0,0,Cs d r j,false,false⟩)/\j<=r.length/\r.length+1-j<r.length+1-i:=fun st hst=>⟨i+1,hst,h,by omega⟩
    by_cases c1:0<=d.getD w 0
    .rw[Tv c1] at hstep;rcases hbr i hi with hb | ⟨b,hb,hbl,_⟩
     .rw[hb,Tv (by decide)] at hstep;rw[hstep] at next
      rw[hb];refine T.path mix (rwr_0 ⟨g,s,0,[],[],d,r,0,i,v,w,d.getD w 0,0,0,-1,false,false⟩ (by simp[iN]) hrow dk (by simp[iN]) hg1 (by simp[iN]) hdw (TD c1) rfl ?_);intro st hst;simp only[wi] at hst;exact next st hst
     .rw[hb,Tw (by omega),TG] at hstep;have hdb:=Bu (l:=d) (j:=b) (by rw[hD.len];omega);rw[hb];by_cases c2:d.getD w 0<d.getD b 0
      .rw[Tv c2] at hstep;rw[hstep] at next
       refine T.path mix (rwr_1 ⟨g,s,0,[],[],d,r,0,i,v,w,d.getD w 0,d.getD b 0,0,(b:Int),false,false⟩ (by simp[iN]) hrow dk (by simp[iN]) hg1 (by simp[iN]) hdw (TD c1) (TC (by simp only;omega)) (by simp) hdb (TD c2) ?_);intro st hst;simp only[wi] at hst;exact next st hst
      .rw[Tw c2] at hstep;rw[hstep] at next
       refine T.path mix (rwr_2 ⟨g,s,0,[],[],d,r,0,i,v,w,d.getD w 0,d.getD b 0,0,(b:Int),false,false⟩ (by simp[iN]) hrow dk (by simp[iN]) hg1 (by simp[iN]) hdw (TD c1) (TC (by simp only;omega)) (by simp) hdb (TC c2) ?_);intro st hst;simp only[wi] at hst;exact next st hst
    .rw[Tw c1] at hstep;rw[hstep] at next
     refine T.path mix (rwr_3 ⟨g,s,0,[],[],d,r,0,i,v,w,d.getD w 0,0,0,Cs d r i,false,false⟩ (by simp[iN]) hrow dk (by simp[iN]) hg1 (by simp[iN]) hdw (TC c1) ?_);intro st hst;simp only[wi] at hst;exact next st hst
   .obtain rfl:i=r.length:=by omega
    have dn:decide (iN r.length<iN (r.map (AV.int .i64)).length)=false:=TC (by simp only[iN,hrl];omega);rcases hbr r.length (TI _) with hb | ⟨b,hb,hbl,hb0⟩
    .rw[hnil hb,hb];exact T.out mix (rwx_0 ⟨g,s,0,[],[],d,r,0,r.length,v,0,0,0,0,-1,false,false⟩ (by simp[iN]) hrow dn rfl)
    .rw[hsome b hb,hb];have hbd:=(hD.bnd b hbl).2;have hf:=hfirst b hbl hb0;obtain⟨m,hm⟩:∃m:Nat,d.getD b 0=(m:Int):=⟨(d.getD b 0).toNat,by omega⟩;rw[hm,TG] at hf ⊢
     have hpl:=Jv g d b m;have htk:=wkL_take g d b m;generalize wkL g d b m=p at hf hpl htk;have hlp:=BV p;have hw1:i64.wrap (iN (p.map (AV.int .i64)).length-1)=((m:Nat):Int):=by rw[hlp,hpl];have:=FM (m+1) (by omega) (by omega);simp only[iN];rw[this];simp
     have e3:List.take (((m:Nat):Int).toNat-Uz 0) (List.drop (Uz 0) (p.map (AV.int .i64)))=((Uy m).map (wkZ g d b)).map (AV.int .i64):=by rw[<-htk];simp[List.map_take]
     have k:=rwx_1 ⟨g,s,0,p,[],d,r,0,r.length,v,0,0,0,0,(b:Int),false,false⟩ (by simp[iN]) hrow dn (TC (by simp only;omega)) hf (fun x hx=>by obtain⟨y,_,rfl⟩:=T4.1 hx;rfl) (by simp only[hw1];omega) (by simp only[hw1];simp only[iN,hlp,hpl];omega) (Int.le_refl _) rfl
      (fun x hx=>by simp only[hw1,e3] at hx;obtain⟨y,_,rfl⟩:=T4.1 hx;rfl) (by simp only[hw1,e3];simp;omega) (by simp only[hw1,e3];simp;omega) (by simp only[hw1,e3];show _=([AV.int .i64 (iN v)]++_).length;rw[TU])
     simp only[hw1,e3] at k;exact T.out mix k
  have hz:=hbr r.length (TI _);generalize Cs d r r.length=b at run hz;unfold thD;rcases hz with rfl | ⟨b,rfl,hbl,hb0⟩
  .rw[Tv (by decide)];refine CT.pathW mix Try.func135 hb hn (res:=.nils) (rw_0 ⟨g,s,0,[],[],d,[],0,0,v,0,0,0,0,0,false,s.getD v false⟩ (by simp[iN]) hsv hso c1 ?_) rfl;exact run _ (fun _=>rfl) (fun b h=>by omega)
  .rw[Tw (by omega),TG];refine CT.path mix Try.func135 hb hn (rw_0 ⟨g,s,0,[],[],d,[],0,0,v,0,0,0,0,0,false,s.getD v false⟩ (by simp[iN]) hsv hso c1 ?_);exact run _ (fun h=>by omega) (fun b' h=>by rw[show b'=b by omega])
def thT(e:Int)(l:List Int):AV:=.tup [.int .i64 (iN l.length),lI l,.int .i64 e]
def IR(o p:List Int):List Int:=if 0<p.length/\(o=[]\/p.length<o.length) then p else o
def Ce(g:List (List Int))(s:List Bool):Nat->List Int | 0=>[] | v+1=>IR (Ce g s v) (thZ g s v)
def IU(g:List (List Int))(s:List Bool):List Int:=if DD g s=0 then Ce g s g.length else []
def qgi(g:List (List Int))(s:List Bool)(p o:List Int)(i:Nat):QE:=⟨g,s,0,p,o,[],[],0,i,0,0,0,0,0,0,false,false⟩
theorem RE{g:List (List Int)}{s:List Bool}(hrw:Rows g):CT UB 103 [] [.lst (gL g),.lst (boL s)] [] (thT (DD g s) (IU g s)):=by
 have hl:=BD g;have c:=SG (s:=s) hrw;have hb:Try.f103.body=some (zB Try.f103):=by kernel_rfl
 have hn:[UA (gL g),.lst (boL s)].length<=Try.f103.ntmps:=nL rfl;unfold IU;by_cases h:DD g s=0
 .rw[Tv h];rw[h] at c ⊢
  obtain⟨hg,ha⟩:=IV hrw h;have hgl:=hg.len;refine CT.path mix Try.func103 hb hn (rgi_1 ⟨g,s,0,[],[],[],[],0,0,0,0,0,0,0,0,false,false⟩ c rfl (T.nil ?_));refine T.loop (fun i:Nat=>FI (qgi g s [] (Ce g s i) i)) (fun i=>i<=g.length) (fun i=>g.length+1-i) 0 (TJ _) ?_;intro i hi;by_cases hil:i<g.length
  .have ct:=SI hg i hil;have hs1:Ce g s (i+1)=IR (Ce g s i) (thZ g s i):=rfl;have next:∀st,Ren 0 st (FI (qgi g s [] (Ce g s (i+1)) (i+1)))->∃j,Ren 0 st (FI (qgi g s [] (Ce g s j) j))/\j<=g.length/\g.length+1-j<g.length+1-i:=fun st hst=>⟨i+1,hst,hil,by omega⟩
   rw[hs1] at next
   generalize thZ g s i=p at ct next
   generalize Ce g s i=o at next
   have hpl:=BV p;have hol:=BV o;have dk:decide (iN i<iN (gL g).length)=true:=TD (by simp only[iN,hl];omega);have wi:i64.wrap (iN i+1)=((i+1:Nat):Int):=zW i (by omega);unfold IR at next
   by_cases hp:0<p.length
   .have dp:decide (0<iN (p.map (AV.int .i64)).length)=true:=TD (by simp only[iN,hpl];omega);by_cases ho:o=[]
    .rw[Tv ⟨hp,.inl ho⟩] at next
     refine T.path mix (rgr_0 (qgi g s p o i) dk ct dp (by simp[qgi,ho,iN]) ?_);intro st hst;simp only[wi,qgi] at hst;exact next st hst
    .have hol0:(iN (o.map (AV.int .i64)).length==0)=false:=by simp only[iN,hol,T8,ne_eq];intro e;exact ho (List.length_eq_zero_iff.1 (by omega))
     by_cases hlt:p.length<o.length
     .rw[Tv ⟨hp,.inr hlt⟩] at next
      refine T.path mix (rgr_1 (qgi g s p o i) dk ct dp hol0 (TD (by simp only[iN,qgi,hpl,hol];omega)) ?_);intro st hst;simp only[wi,qgi] at hst;exact next st hst
     .rw[Tw (fun h=>h.2.elim ho hlt)] at next
      refine T.path mix (rgr_2 (qgi g s p o i) dk ct dp hol0 (TC (by simp only[iN,qgi,hpl,hol];omega)) ?_);intro st hst;simp only[wi,qgi] at hst;exact next st hst
   .rw[Tw (fun h=>hp h.1)] at next
    refine T.path mix (rgr_3 (qgi g s p o i) dk ct (TC (by simp only[iN,qgi,hpl];omega)) ?_);intro st hst;simp only[wi,qgi] at hst;exact next st hst
  .obtain rfl:i=g.length:=by omega
   have k:=rgx_0 (qgi g s [] (Ce g s g.length) g.length) (TC (by simp only[iN,qgi,hl];omega));simp only[BV,qgi] at k;exact T.out mix k
 .rw[Tw h];exact CT.pathW mix Try.func103 hb hn (rgi_0 ⟨g,s,0,[],[],[],[],DD g s,0,0,0,0,0,0,0,false,false⟩ c (by simpa using h)) rfl
def KC(g:List (List Int))(s:List Bool)(o:List Int):Prop:=o≠[]/\(∀x∈o,0<=x/\x<(g.length:Int)/\s.getD x.toNat false=false)/\∀i,i<o.length->o.getD ((i+1) % o.length) 0∈g.getD (o.getD i 0).toNat []
theorem get_mem{o:List Int}{i:Nat}(h:i<o.length):o.getD i 0∈o:=by rw[Ty,Tx h];exact T5 h
theorem L8{o:List Int}{x:Int}(h:x∈o):∃i,i<o.length/\o.getD i 0=x:=by obtain⟨i,hi,e⟩:=Ua.1 h;exact⟨i,hi,by rw[Ty,Tx hi];exact e⟩
theorem asc_len{g:List (List Int)}{s:List Bool}(hg:OkG g s)(ha:Asc g){v:Nat}(hv:v<g.length):(g.getD v []).length<=g.length:=by
 have hget:=fun i=>F9 hg hv (i:=i)
 have hs:=ha v hv;generalize g.getD v []=r at hget hs;have key:∀i,i<r.length->(i:Int)<=r.getD i 0:=by
  intro i;induction i with
  | zero=>intro h;obtain⟨w,hw,_⟩:=hget 0 h;omega
  | succ i ih=>intro h;have h1:=ih (by omega);have h2:=hs (i+1) (by omega) h;simp only[Th] at h2;omega
 by_cases h:r.length=0
 .omega
 .have h1:=key (r.length-1) (by omega);obtain⟨w,hw,hw1,_⟩:=hget (r.length-1) (by omega);omega
def MW(o:List Int)(i:Nat):Int:=if i=0 then o.getD (o.length-1) 0 else o.getD (i-1) 0
theorem KC.of{g:List (List Int)}{s:List Bool}{o:List Int}(h0:o≠[])(h:∀i,i<o.length->(0<=o.getD i 0/\o.getD i 0<(g.length:Int)/\s.getD (o.getD i 0).toNat false=false)/\o.getD i 0∈g.getD (MW o i).toNat []):KC g s o:=by
 refine⟨h0,fun x hx=>?_,fun i hi=>?_⟩
 .obtain⟨i,hi,rfl⟩:=L8 hx;exact(h i hi).1
 .by_cases e:i+1=o.length
  .rw[e,Nat.mod_self];have:=(h 0 (by omega)).2;unfold MW at this;rw[Tv rfl] at this
   rwa [show i=o.length-1 by omega]
  .rw[Tn (by omega)];have:=(h (i+1) (by omega)).2;unfold MW at this
   rwa [Tw (by omega),Th] at this
structure QL where
 L:List Int
 g:List (List Int)
 s:List Bool
 v:Nat
 goal:Nat
 p:List Int
 d:List Int
 h:List Int
 rl:List Bool
 k:Nat
 w:Nat
 x:Int
 y:Int
 z:Int
 b:Bool
 sb:Bool
 r:List Int
 m1:Nat
 m2:Nat
def c6(q:QL):Nat->FuncId->List AV->List (Option Blk)->AG:=fun dst f args hp=>match f with
 | 15=>Mb q.L args hp (match dst with | 34=>iN q.v | _=>iN q.goal)
 | 111=>.call [] [] [] (.tup [lI q.p,.int .i64 0])
 | 32=>.call [] [] [] (.tup [lI q.d,.int .i64 0])
 | 26=>.call [] [] [] (.bool true)
 | _=>.no
theorem shN{g:List (List Int)}{s:List Bool}{goal a:Nat}{d:List Int}(hD:Dst g s goal d)(ha:a<g.length)(h0:0<=d.getD a 0):s.getD goal false=false:=by
 cases h:s.getD goal false with
 | false=>rfl
 | true=>have:=hD.shut h a ha;omega
theorem opnN{g:List (List Int)}{s:List Bool}{goal a:Nat}{d:List Int}(hD:Dst g s goal d)(ha:a<g.length)(h0:0<=d.getD a 0):s.getD a false=false:=by
 rcases hD.back a ha h0 with rfl | h
 .exact shN hD ha h0
 .exact h.1
theorem Sm{l:List Int}{x:Int}(h:x∈l):Ay l x=true:=by
 cases e:Ay l x with
 | true=>rfl
 | false=>exact absurd h (Kw e)
theorem N1{g:List (List Int)}{s:List Bool}(hg:OkG g s){goal:Nat}{d:List Int}(hD:Dst g s goal d){u:Nat}(hu:u<g.length)(h0:0<d.getD u 0)(hgd:s.getD goal false=false):B2 g d u∈g.getD u []:=by
 have h:=(Qr hg hD hu h0 hgd).1;unfold B2 at h ⊢
 cases hf:fnd (DW g d u) 0 (g.getD u []).length with
 | none=>rw[hf] at h;exact absurd h (show ¬(0:Int)<=-1 by decide)
 | some i=>obtain⟨_,_,b⟩:=D0 hf;show(g.getD u []).getD i 0∈g.getD u [];rw[Ty (l:=g.getD u []),Tx (by omega)];exact T5 (by omega)
def JM(g:List (List Int))(d:List Int)(v:Nat):List Int:=if d.getD v 0<0 then [] else wkL g d v (d.getD v 0).toNat
theorem NL{g:List (List Int)}{s:List Bool}(hg:OkG g s){v:Nat}(hv:v<g.length)(hne:thZ g s v≠[]):
  ∃b m:Nat,s.getD v false=false/\b<g.length/\(b:Int)∈g.getD v []/\(AC g s v g.length).getD b 0=(m:Int)/\1<=m/\thZ g s v=(v:Int)::(Uy m).map (wkZ g (AC g s v g.length) b)/\
   ∀w∈g.getD v [],0<=(AC g s v g.length).getD w.toNat 0->(m:Int)<=(AC g s v g.length).getD w.toNat 0:=by
 unfold thZ at hne ⊢
 by_cases hso:s.getD v false=true
 .rw[Tv hso] at hne;exact absurd rfl hne
 .rw[Tw hso] at hne ⊢
  have hso:=Uk.2 hso;have hD:=FG hg hv;generalize AC g s v g.length=d at hne hD ⊢
  have hbo:=PQ (d:=d) (OW hg hv) _ (TI _);generalize hbb:Cs d (g.getD v []) (g.getD v []).length=b at hbo hne ⊢
  unfold thD at hne ⊢
  rcases hbo with ⟨rfl,_⟩ | ⟨k,hk,hbk,hk0,hmin,_⟩
  .rw[Tv (by decide)] at hne;exact absurd rfl hne
  .obtain⟨w,hw,hw1,hw2⟩:=F9 hg hv hk;rw[hw] at hbk;subst hbk;rw[hw,TG] at hk0 hmin;rw[Tw (by omega)];refine⟨w,(d.getD w 0).toNat,hso,hw1,by rw[<-hw];exact row_mem hk,by omega,?_,by rw[TG],fun x hx h0=>?_⟩
   .by_cases e:d.getD w 0=0
    .exact absurd (JU hD hw1 e) hw2
    .omega
   .obtain⟨j,hj,rfl⟩:=PW hx;have:=hmin j hj h0;omega
theorem th_get{g:List (List Int)}{d:List Int}{v b m:Nat}:∀i,i<m+1->((v:Int)::(Uy m).map (wkZ g d b)).getD i 0=if i=0 then (v:Int) else wkZ g d b (i-1):=by
 intro i hi;cases i with
 | zero=>rfl
 | succ i=>rw[Tw (by omega),Th,List.getD_cons_succ,Ty,TH,TW (by omega)];rfl
theorem th_cls{g:List (List Int)}{s:List Bool}(hg:OkG g s){v:Nat}(hv:v<g.length)(hne:thZ g s v≠[]):KC g s (thZ g s v)/\(thZ g s v).getD 0 0=(v:Int)/\∀i,i<(thZ g s v).length->(thZ g s v).getD i 0∉(thZ g s v).take i:=by
 obtain⟨b,m,hso,hb,hbm,hm,h1,e,_⟩:=NL hg hv hne;rw[e];have hD:=FG hg hv;generalize AC g s v g.length=d at hD hm;have hok:=J4 hg hv hD hb hm hso;have hz:=hD.zero hso;have hlen:((v:Int)::(Uy m).map (wkZ g d b)).length=m+1:=by simp
 have hget:=th_get (g:=g) (d:=d) (v:=v) (b:=b) (m:=m);have hwm:wkZ g d b m=(v:Int):=by obtain⟨a1,a2,a3⟩:=hok m (TI _);have:=JU hD (v:=(wkZ g d b m).toNat) (by omega) (by rw[a3];simp);omega
 generalize hl:(v:Int)::(Uy m).map (wkZ g d b)=l at hlen hget;refine⟨⟨by rw[<-hl];simp,fun x hx=>?_,fun i hi=>?_⟩,by rw[<-hl];rfl,fun i hi hm'=>?_⟩
 .obtain⟨i,hi,rfl⟩:=L8 hx;rw[hget i (by omega)];split
  .exact⟨by omega,by omega,by rw[TG];exact hso⟩
  .obtain⟨a1,a2,a3⟩:=hok (i-1) (by omega);exact⟨a1,a2,by
    have hu:(wkZ g d b (i-1)).toNat<g.length:=by omega
    rcases hD.back _ hu (by rw[a3];omega) with e | e
    .rw[e];exact hso
    .exact e.1⟩
 .have hnx:l.getD ((i+1) % l.length) 0=wkZ g d b i:=by
   by_cases e2:i=m
   .rw[hlen,e2,Nat.mod_self,hget 0 (by omega),Tv rfl,hwm]
   .rw[hlen,Tn (by omega),hget (i+1) (by omega),Tw (by omega),Th]
  rw[hnx,hget i (by omega)];split
  .rename_i e0;rw[e0,TG];exact hbm
  .rename_i e0;obtain⟨a1,a2,a3⟩:=hok (i-1) (by omega);have:=N1 hg hD (u:=(wkZ g d b (i-1)).toNat) (by omega) (by rw[a3];omega) hso;obtain⟨i',rfl⟩:∃i',i=i'+1:=⟨i-1,by omega⟩;exact this
 .have hm2:∃j,j<i/\l.getD j 0=l.getD i 0:=by
   obtain⟨j,hj,e2⟩:=L8 hm';have hj2:j<i:=by simp only[T1] at hj;omega
   refine⟨j,hj2,?_⟩;rw[<-e2,Ty,Ty,TT,Tv hj2]
  obtain⟨j,hj,e2⟩:=hm2;rw[hget i (by omega),hget j (by omega),Tw (show ¬i=0 by omega)] at e2;obtain⟨a1,a2,a3⟩:=hok (i-1) (by omega);by_cases ej:j=0
  .rw[Tv ej] at e2;rw[<-e2,TG,hz] at a3;omega
  .rw[Tw ej] at e2;obtain⟨b1,b2,b3⟩:=hok (j-1) (by omega);rw[e2,a3] at b3;omega
theorem NQ(g:List (List Int))(s:List Bool):∀k,(Ce g s k=[]/\∀v,v<k->thZ g s v=[])\/∃v,v<k/\Ce g s k=thZ g s v/\thZ g s v≠[]/\∀u,u<k->thZ g s u≠[]->(thZ g s v).length<=(thZ g s u).length:=by
 intro k;induction k with
 | zero=>exact .inl ⟨rfl,fun v hv=>by omega⟩
 | succ k ih=>
  have e:Ce g s (k+1)=IR (Ce g s k) (thZ g s k):=rfl;rw[e];unfold IR;by_cases hp:thZ g s k=[]
  .rw[Tw (fun h=>by rw[hp] at h;exact absurd h.1 (by simp))];rcases ih with ⟨h1,h2⟩ | ⟨v,hv,h1,h2,h3⟩
   .refine .inl ⟨h1,fun v hv=>?_⟩;by_cases ev:v=k
    .rw[ev];exact hp
    .exact h2 v (by omega)
   .refine .inr ⟨v,by omega,h1,h2,fun u hu hne=>?_⟩;by_cases eu:u=k
    .rw[eu] at hne;exact absurd hp hne
    .exact h3 u (by omega) hne
  .have hpl:0<(thZ g s k).length:=List.length_pos_iff.2 hp;rcases ih with ⟨h1,h2⟩ | ⟨v,hv,h1,h2,h3⟩
   .rw[Tv ⟨hpl,.inl h1⟩];refine .inr ⟨k,by omega,rfl,hp,fun u hu hne=>?_⟩;by_cases eu:u=k
    .rw[eu];exact TI _
    .exact absurd (h2 u (by omega)) hne
   .rw[h1];by_cases hlt:(thZ g s k).length<(thZ g s v).length
    .rw[Tv ⟨hpl,.inr hlt⟩];refine .inr ⟨k,by omega,rfl,hp,fun u hu hne=>?_⟩;by_cases eu:u=k
     .rw[eu];exact TI _
     .have:=h3 u (by omega) hne;omega
    .rw[Tw (fun h=>h.2.elim h2 hlt)];refine .inr ⟨v,by omega,rfl,h2,fun u hu hne=>?_⟩;by_cases eu:u=k
     .rw[eu];omega
     .exact h3 u (by omega) hne
theorem S3{g:List (List Int)}{s:List Bool}(hg:OkG g s)(hne:Ce g s g.length≠[]):KC g s (Ce g s g.length)/\∀i,i<(Ce g s g.length).length->(Ce g s g.length).getD i 0∉(Ce g s g.length).take i:=by
 rcases NQ g s g.length with ⟨h,_⟩ | ⟨v,hv,h1,h2,_⟩
 .exact absurd h hne
 .rw[h1];obtain⟨a,_,c⟩:=th_cls hg hv h2;exact⟨a,c⟩
theorem thZ_len{g:List (List Int)}{s:List Bool}(hg:OkG g s){v:Nat}(hv:v<g.length):(thZ g s v).length<=1000:=by
 by_cases h:thZ g s v=[]
 .rw[h];simp
 .obtain⟨b,m,_,hb,_,hm,_,e,_⟩:=NL hg hv h;have:=((FG hg hv).bnd b hb).2;have:=hg.len;rw[e];simp only[Ud,TA,Ug];omega
theorem G1{l:List Int}{x:Int}:Ay l x=true↔x∈l:=by
 constructor
 .intro hh;unfold Ay at hh;cases hfd:fnd (fun j=>l.getD j 0==x) 0 l.length with
  | none=>rw[hfd] at hh;cases hh
  | some j=>obtain⟨a1,_,a2⟩:=D0 hfd;rw[<-beq_iff_eq.1 a1];exact get_mem (by omega)
 .exact Sm
@[irreducible] def AN(c:Int):Bool:=(decide (97<=c)&&decide (c<=122))||(decide (65<=c)&&decide (c<=90))
@[irreducible] def okB(c:Int):Bool:=AN c||!(decide (c<48)||decide (57<c))||(c==45)||(c==95)
@[irreducible] def nmB(s:ByteArray):Bool:= !(s.toList==(ByteArray.mk #[]).toList)&&!(decide (12<iN s.size))&&AN (bAt s 0)&&!(fnd (fun i=> !(okB (bAt s i))) 0 s.size).isSome
theorem O4(c:Int):CT UB 144 [] [.int .u8 c] [] (.bool (AN c)):=by
 have hb:Try.f144.body=some (zB Try.f144):=by kernel_rfl
 have hn:[AV.int .u8 c].length<=Try.f144.ntmps:=nL rfl;cases t1:decide (97<=(QN.mk ⟨#[]⟩ c 0 false false 0 0 0 0).c)
 case false=>
  cases t2:decide (65<=(QN.mk ⟨#[]⟩ c 0 false false 0 0 0 0).c)
  case false=>exact CT.pathS mix Try.func144 hb hn (let_4 (QN.mk ⟨#[]⟩ c 0 false false 0 0 0 0) t1 t2) (by simp_all [AN]<;>omega)
  case true=>exact CT.pathS mix Try.func144 hb hn (let_3 (QN.mk ⟨#[]⟩ c 0 false false 0 0 0 0) t1 t2) (by simp_all [AN]<;>omega)
 case true=>
  cases t3:decide ((QN.mk ⟨#[]⟩ c 0 false false 0 0 0 0).c<=122)
  case false=>
   cases t4:decide (65<=(QN.mk ⟨#[]⟩ c 0 false false 0 0 0 0).c)
   case false=>exact CT.pathS mix Try.func144 hb hn (let_2 (QN.mk ⟨#[]⟩ c 0 false false 0 0 0 0) t1 t3 t4) (by simp_all [AN]<;>omega)
   case true=>exact CT.pathS mix Try.func144 hb hn (let_1 (QN.mk ⟨#[]⟩ c 0 false false 0 0 0 0) t1 t3 t4) (by simp_all [AN]<;>omega)
  case true=>exact CT.pathS mix Try.func144 hb hn (let_0 (QN.mk ⟨#[]⟩ c 0 false false 0 0 0 0) t1 t3) (by simp_all [AN]<;>omega)
theorem Pd(c:Int):CT UB 146 [] [.int .u8 c] [] (.bool (AN c)):=by
 have hb:Try.f146.body=some (zB Try.f146):=by kernel_rfl
 have hn:[AV.int .u8 c].length<=Try.f146.ntmps:=nL rfl;cases t5:decide (97<=(QN.mk ⟨#[]⟩ c 0 false false 0 0 0 0).c)
 case false=>
  cases t6:decide (65<=(QN.mk ⟨#[]⟩ c 0 false false 0 0 0 0).c)
  case false=>exact CT.pathS mix Try.func146 hb hn (rlet_4 (QN.mk ⟨#[]⟩ c 0 false false 0 0 0 0) t5 t6) (by simp_all [AN]<;>omega)
  case true=>exact CT.pathS mix Try.func146 hb hn (rlet_3 (QN.mk ⟨#[]⟩ c 0 false false 0 0 0 0) t5 t6) (by simp_all [AN]<;>omega)
 case true=>
  cases t7:decide ((QN.mk ⟨#[]⟩ c 0 false false 0 0 0 0).c<=122)
  case false=>
   cases t8:decide (65<=(QN.mk ⟨#[]⟩ c 0 false false 0 0 0 0).c)
   case false=>exact CT.pathS mix Try.func146 hb hn (rlet_2 (QN.mk ⟨#[]⟩ c 0 false false 0 0 0 0) t5 t7 t8) (by simp_all [AN]<;>omega)
   case true=>exact CT.pathS mix Try.func146 hb hn (rlet_1 (QN.mk ⟨#[]⟩ c 0 false false 0 0 0 0) t5 t7 t8) (by simp_all [AN]<;>omega)
  case true=>exact CT.pathS mix Try.func146 hb hn (rlet_0 (QN.mk ⟨#[]⟩ c 0 false false 0 0 0 0) t5 t7) (by simp_all [AN]<;>omega)
theorem wit_ct(x y z:Int):CT UB 127 [] [.int .i64 x,.int .i64 y,.int .i64 z] [] (.bool (decide (y<=x)&&decide (x<=z))):=by
 have hb:Try.f127.body=some (zB Try.f127):=by kernel_rfl
 have hn:[AV.int .i64 x,.int .i64 y,.int .i64 z].length<=Try.f127.ntmps:=nL rfl;cases t9:decide ((QN.mk ⟨#[]⟩ 0 0 false false x y z 0).y<=(QN.mk ⟨#[]⟩ 0 0 false false x y z 0).x)
 case false=>exact CT.pathS mix Try.func127 hb hn (wit_1 (QN.mk ⟨#[]⟩ 0 0 false false x y z 0) t9) (by simp_all)
 case true=>exact CT.pathS mix Try.func127 hb hn (wit_0 (QN.mk ⟨#[]⟩ 0 0 false false x y z 0) t9) (by simp_all)
theorem SU(s:ByteArray):(AQ s).length=s.size:=by simp[AQ]
theorem SV{s:ByteArray}{i:Nat}(h:i<s.size):(AQ s)[i]?=some (.int .u8 (bAt s i)):=by
 have h':i<s.data.toList.length:=by simpa using h
 unfold AQ bAt;rw[TH,Ty,Tx h'];rfl
theorem N4{s:ByteArray}(h:(s.toList==(ByteArray.mk #[]).toList)=false):0<s.size:=by
 rcases Nat.eq_zero_or_pos s.size with h0 | h0
 .have:s=ByteArray.mk #[]:=by cases s;rename_i d;congr;exact Array.eq_empty_of_size_eq_zero h0
  subst this;simp at h
 .exact h0
def qN(s:ByteArray)(c:Int)(i:Nat)(b:Bool):QN:=QN.mk s c i b false 0 0 0 0
theorem Pv(s:ByteArray):CT UB 129 [] [.str s] [] (.bool (nmB s)):=by
 have hb:Try.f129.body=some (zB Try.f129):=by kernel_rfl
 have hn:[AV.str s].length<=Try.f129.ntmps:=nL rfl;have hl:=SU s;have hle:=O4 (bAt s 0);unfold nmB;cases h1:s.toList==(ByteArray.mk #[]).toList
 case true=>exact CT.pathS mix Try.func129 hb hn (nmi_0 (qN s 0 0 false) h1) (by simp)
 have h0:=N4 h1;cases h2:decide (12<iN s.size)
 case true=>exact CT.pathS mix Try.func129 hb hn (nmi_1 (qN s 0 0 false) h1 h2) (by simp)
 cases h3:AN (bAt s 0)
 case false=>rw[h3] at hle;exact CT.pathS mix Try.func129 hb hn (nmi_2 (qN s 0 0 false) h1 h2 (by simpa [iN,qN] using h0) hle rfl) (by simp)
 rw[h3] at hle;refine CT.path mix Try.func129 hb hn (nmi_3 (qN s 0 0 true) h1 h2 (by simpa [iN,qN] using h0) hle rfl ?_);simp only[Tt,Bool.true_and];have h12:s.size<=12:=by have:=of_decide_eq_false h2;simp only[iN] at this;omega
 generalize hrr:fnd (fun i=> !(okB (bAt s i))) 0 s.size=res;refine T.loop (fun i:Nat=>Da (qN s 0 i false)) (fun i=>i<=s.size/\fnd (fun i=> !(okB (bAt s i))) i (s.size-i)=res) (fun i=>s.size+1-i) 0 ⟨TJ _,hrr⟩ ?_
 rintro i ⟨hi,hf⟩
 by_cases h:i<s.size
 .rw[CV h] at hf;have hg1:=SV h;have dk:decide (iN i<iN (AQ s).length)=true:=TD (by simp only[iN,hl];omega);have k0:(0:Int)<=iN i:=by simp[iN]
  have hci:=O4 (bAt s i);have wi:i64.wrap (iN i+1)=((i+1:Nat):Int):=zW i (by omega);have next:okB (bAt s i)=true->∀st,Ren 0 st (Da (qN s 0 (i+1) false))->∃j,Ren 0 st (Da (qN s 0 j false))/\(j<=s.size/\fnd (fun i=> !(okB (bAt s i))) j (s.size-j)=res)/\s.size+1-j<s.size+1-i:=by intro hb st hst;simp only[hb,Bool.not_true] at hf;exact⟨i+1,hst,⟨h,hf⟩,by omega⟩
  have stop:okB (bAt s i)=false->res=some i:=by intro hb;simp only[hb,Tt] at hf;exact hf.symm
  cases t10:(!(qN s (bAt s i) i (AN (bAt s i))).b)
  case false=>exact T.path mix (nml_7 (qN s (bAt s i) i (AN (bAt s i))) dk (by assumption) (by assumption) (by assumption) t10 (fun st hst=>by simp only[qN,wi] at hst;exact next (by simp_all [okB,qN]) st hst))
  case true=>
   cases t11:decide ((qN s (bAt s i) i (AN (bAt s i))).c<48)
   case false=>
    cases t12:decide (57<(qN s (bAt s i) i (AN (bAt s i))).c)
    case false=>exact T.path mix (nml_6 (qN s (bAt s i) i (AN (bAt s i))) dk (by assumption) (by assumption) (by assumption) t10 t11 t12 (fun st hst=>by simp only[qN,wi] at hst;exact next (by simp_all [okB,qN]) st hst))
    case true=>
     cases t13:((qN s (bAt s i) i (AN (bAt s i))).c != 45)
     case false=>exact T.path mix (nml_5 (qN s (bAt s i) i (AN (bAt s i))) dk (by assumption) (by assumption) (by assumption) t10 t11 t12 t13 (fun st hst=>by simp only[qN,wi] at hst;exact next (by simp_all [okB,qN]) st hst))
     case true=>
      cases t14:((qN s (bAt s i) i (AN (bAt s i))).c != 95)
      case false=>exact T.path mix (nml_4 (qN s (bAt s i) i (AN (bAt s i))) dk (by assumption) (by assumption) (by assumption) t10 t11 t12 t13 t14 (fun st hst=>by simp only[qN,wi] at hst;exact next (by simp_all [okB,qN]) st hst))
      case true=>rw[stop (by simp_all [okB,qN])];exact T.out mix (nml_3 (qN s (bAt s i) i (AN (bAt s i))) dk (by assumption) (by assumption) (by assumption) t10 t11 t12 t13 t14)
   case true=>
    cases t15:((qN s (bAt s i) i (AN (bAt s i))).c != 45)
    case false=>exact T.path mix (nml_2 (qN s (bAt s i) i (AN (bAt s i))) dk (by assumption) (by assumption) (by assumption) t10 t11 t15 (fun st hst=>by simp only[qN,wi] at hst;exact next (by simp_all [okB,qN]) st hst))
    case true=>
     cases t16:((qN s (bAt s i) i (AN (bAt s i))).c != 95)
     case false=>exact T.path mix (nml_1 (qN s (bAt s i) i (AN (bAt s i))) dk (by assumption) (by assumption) (by assumption) t10 t11 t15 t16 (fun st hst=>by simp only[qN,wi] at hst;exact next (by simp_all [okB,qN]) st hst))
     case true=>rw[stop (by simp_all [okB,qN])];exact T.out mix (nml_0 (qN s (bAt s i) i (AN (bAt s i))) dk (by assumption) (by assumption) (by assumption) t10 t11 t15 t16)
 .rw[C1 h] at hf;subst hf;exact T.out mix (nml_8 (qN s 0 i false) (TC (by simp only[qN];change ¬iN i<iN (AQ s).length;simp only[iN,hl];omega)))
structure AM where
 nm:ByteArray
 x:Int
 y:Int
structure Ao where
 nm:ByteArray
 dep:Bool
 i:Int
 o:Int
 k:Int
 b:Int
structure Aa where
 bs:List AM
 nx:List (List Int)
 ss:List Ao
 rs:List Int
 q:Int
 a:Int
 d:Int
 p:Int
def bA(b:AM):AV:=.agg [.str b.nm,.int .i64 b.x,.int .i64 b.y]
def sA(s:Ao):AV:=.agg [.str s.nm,.bool s.dep,.int .i64 s.i,.int .i64 s.o,.int .i64 s.k,.int .i64 s.b]
def Ai(n:Aa):AV:=.agg [.lst (n.bs.map bA),.lst (gL n.nx),.lst (n.ss.map sA),lI n.rs,.int .i64 n.q,.int .i64 n.a,.int .i64 n.d,.int .i64 n.p]
def nB(n:Aa):Blk:={es:=[Ai n],z:=8}
def mpB(l:List MapEntry)(c:Nat):Blk:={es:=[],z:=0,mp:=some (l,c)}
structure AE where
 n:Aa
 l:List MapEntry
 c:Nat
 l2:List MapEntry
 c2:Nat
 b:AM
 s:Ao
 r:List Int
 i:Nat
 base:Int
 k:Nat
 ok:Bool
 x:Int
 y:Int
 z:Int
 sp:Bool
 nb:ByteArray
@[irreducible] def Av(x y z:Int):Bool:=decide (y<=x)&&decide (x<=z)
@[irreducible] def A9(n:Aa):Bool:=Av n.q 1 8&&Av n.a 0 4&&Av n.d 0 3&&Av n.p 1 16
@[irreducible] def nxE(r:List Int)(i m:Int)(k:Nat):Bool:=decide (r.getD k 0<=BX r k)||decide (m<=r.getD k 0)||r.getD k 0==i
@[irreducible] def nxB(r:List Int)(i m:Int):Bool:= !(fnd (nxE r i m) 0 r.length).isSome&&decide (r.length<=4)
def blkE(n:Aa)(i:Nat):Bool:=match n.bs[i]? with
 | some b=> !(Av b.x (-9999) 9999&&Av b.y (-9999) 9999&&nxB (n.nx.getD i []) i n.bs.length)
 | none=>false
@[irreducible] def blsB(n:Aa):Bool:=decide (1<=n.bs.length)&&decide (n.bs.length<=24)&&decide (n.nx.length=n.bs.length)&&!(fnd (blkE n) 0 n.bs.length).isSome
def B1(n:Aa):List ByteArray:=n.bs.map (·.nm)++n.ss.map (·.nm)
open Classical in
@[irreducible] def nmsB(n:Aa):Bool:=(B1 n).all nmB&&decide (B1 n).Nodup
def AL(q:AE):Nat->FuncId->List AV->List (Option Blk)->AG:=fun dst f args hp=>match f with
 | 144=>match args with
  | [.int _ c]=>.call [] [] [] (.bool (AN c))
  | _=>.no
 | 146=>match args with
  | [.int _ c]=>.call [] [] [] (.bool (AN c))
  | _=>.no
 | 127=>match args with
  | [.int _ x,.int _ y,.int _ z]=>.call [] [] [] (.bool (Av x y z))
  | _=>.no
 | 128=>.call [] [] [] (.bool (A9 q.n))
 | 115=>.call [] [] [] (.bool (A9 q.n))
 | 129=>match args with
  | [.str s]=>.call [] [] [] (.bool (nmB s))
  | _=>.no
 | 140=>match args with
  | [.str s]=>.call [] [] [] (.bool (nmB s))
  | _=>.no
 | 130=>match args with
  | [.lst l,.int _ i,.int _ m]=>.call [] [] [] (.bool (nxB q.r i m))
  | _=>.no
 | 113=>.call [] [] [] (.bool (blsB q.n))
 | 114=>.call [] [] [] (.bool (nmsB q.n))
 | 26=>.call [] [] [] (.bool q.ok)
 | _=>.no
def BL(q:AE):List (Nat×AV):=[]
def Kr(q:AE):St:={n:=Try.f140.ntmps,fr:=[(0,.str q.nb)],hp:=[]}
def C9(q:AE):St:={n:=Try.f140.ntmps,fr:=[(0,.str q.nb),(3,.int .i64 (iN q.i))],hp:=[]}
def KQ(q:AE):St:={n:=Try.f128.ntmps,fr:=[(0,.agg [.int .i64 q.n.q,.int .i64 q.n.a,.int .i64 q.n.d,.int .i64 q.n.p])],hp:=[]}
def FJ(q:AE):St:={n:=Try.f115.ntmps,fr:=[(0,.agg [.int .i64 q.n.q,.int .i64 q.n.a,.int .i64 q.n.d,.int .i64 q.n.p])],hp:=[]}
def st152(q:AE):St:={n:=Try.f130.ntmps,fr:=[(0,lI q.r),(1,.int .i64 q.x),(2,.int .i64 q.y)],hp:=[]}
def EW(q:AE):St:={n:=Try.f130.ntmps,fr:=[(0,lI q.r),(1,.int .i64 q.x),(2,.int .i64 q.y),(7,.int .i64 q.z),(10,lI q.r),(11,.int .i64 (iN (q.r.map (AV.int .i64)).length)),(12,.int .i64 (iN q.i))],hp:=[]}
def Hj(q:AE):List (Nat×AV):=[(14,.int .i64 q.base)]
def Hf(q:AE):St:={n:=Try.f93.ntmps,fr:=[(0,Ai q.n)],hp:=[]}
def Ek(q:AE):St:={n:=Try.f93.ntmps,fr:=[(1,.ptr 0 0 0),(3,.map 1),(47,.lst (q.n.bs.map bA)),(48,.int .i64 (iN (q.n.bs.map bA).length)),(49,.int .i64 (iN q.i))],hp:=[some (nB q.n),some (mpB q.l q.c)]}
def CY(q:AE):St:={n:=Try.f93.ntmps,fr:=[(1,.ptr 0 0 0),(3,.map 1),(6,.int .i64 q.base),(7,.map 2),(94,.lst (q.n.ss.map sA)),(95,.int .i64 (iN (q.n.ss.map sA).length)),(96,.int .i64 (iN q.i))],hp:=[some (nB q.n),some (mpB q.l q.c),some (mpB q.l2 q.c2)]}
def spB(s:Ao):Blk:={es:=[sA s],z:=6}
def En(q:AE):St:={n:=Try.f93.ntmps,fr:=[(1,.ptr 0 0 0),(3,.map 1),(6,.int .i64 q.base),(7,.map 2),(9,.ptr 3 0 0),(94,.lst (q.n.ss.map sA)),(95,.int .i64 (iN (q.n.ss.map sA).length)),(96,.int .i64 (iN q.i)),(142,.int .i64 q.s.k),(143,.int .i64 (iN q.k))],hp:=[some (nB q.n),some (mpB q.l q.c),some (mpB q.l2 q.c2),some (spB q.s)]}
def F2(q:AE):St:={n:=Try.f93.ntmps,fr:=[(7,.map 0),(10,.bool q.ok),(169,lI q.n.rs),(170,.int .i64 (iN (q.n.rs.map (AV.int .i64)).length)),(171,.int .i64 (iN q.i))],hp:=[some (mpB q.l2 q.c2)]}
def Bx(q:AE):List (Nat×AV):=[(52,bA q.b),(79,lI q.r),(98,sA q.s),(173,.int .i64 q.x)]
theorem rni_0(q:AE)(h1:((q.nb.toList==(ByteArray.mk #[]).toList)=true)):GoP UB (hU [15] (BL q) (AL q)) 0 (zB Try.f140) (Kr q) (Fin UB Try.f140 0 [] (AV.bool false)):=zF (σ:=[]) (fz:=[]) (by kernel_rfl) (aj (u2 (aj (u2 (u2 (u2 (aj h1 (aj h1 (aj h1 (ag h1 (u2 (ak (k3 (al t3))))))))))) (ak s2))) t2)
theorem rni_1(q:AE)(h1:((q.nb.toList==(ByteArray.mk #[]).toList)=false))(h2:(decide (12<iN q.nb.size)=true)):GoP UB (hU [14,25] (BL q) (AL q)) 0 (zB Try.f140) (Kr q) (Fin UB Try.f140 0 [] (AV.bool false)):=zF (σ:=[]) (fz:=[]) (by kernel_rfl) (aj (u2 (aj (u2 (u2 (u2 (ag h1 (ag h1 (ag h1 (ag h1 (u2 (aj h2 (aj h2 (aj h2 (aj h2 (al (aj h2 t2)))))))))))))) (ak s2))) t2)
theorem rni_2(q:AE)(h1:((q.nb.toList==(ByteArray.mk #[]).toList)=false))(h2:(decide (12<iN q.nb.size)=false))(h3:(0<iN q.nb.size))(h4:(CT UB 146 [] [AV.int IntKind.u8 (bAt q.nb (Uz 0))] [] (AV.bool (AN (bAt q.nb (Uz 0))))))(h5:((!AN (bAt q.nb (Uz 0)))=true)):GoP UB (hU [14,24,35] (BL q) (AL q)) 0 (zB Try.f140) (Kr q) (Fin UB Try.f140 0 [] (AV.bool false)):=zF (σ:=[]) (fz:=[]) (by kernel_rfl) (aj (u2 (aj (u2 (u2 (u2 (ag h1 (ag h1 (ag h1 (ag h1 (u2 (ag h2 (aj (aj h2 (ak (aj (Int.le_refl 0) h3))) (aj (aj h2 (k2 (al h4))) (ag h2 (al (aj h2 t2)))))))))))))) (aj h5 s2))) t2)
theorem rni_3(q:AE)(h1:((q.nb.toList==(ByteArray.mk #[]).toList)=false))(h2:(decide (12<iN q.nb.size)=false))(h3:(0<iN q.nb.size))(h4:(CT UB 146 [] [AV.int IntKind.u8 (bAt q.nb (Uz 0))] [] (AV.bool (AN (bAt q.nb (Uz 0))))))(h5:((!AN (bAt q.nb (Uz 0)))=false)){post:Exit->St->Prop}(ht:T UB 0 (.loop (zC (zB Try.f140) 0)) (St.mk 46 [(0,AV.str q.nb),(3,iv 0)] []) (TK UB 0 post (zK (zB Try.f140) 0))):GoP UB (hU [14,24,34] (BL q) (AL q)) 0 (zB Try.f140) (Kr q) post:=zR (σ:=[]) (fz:=[]) (vars:=[0,3]) (by kernel_rfl) (aj (u2 (aj (u2 (u2 (u2 (ag h1 (ag h1 (ag h1 (ag h1 (u2 (ag h2 (aj (aj h2 (ak (aj (Int.le_refl 0) h3))) (aj (aj h2 (k2 (al h4))) (ag h2 (al (aj h2 t2)))))))))))))) (aj h5 s2))) t3) ht
theorem rnl_0(q:AE)(h1:(decide (iN q.i<iN q.nb.size)=true))(h2:(0<=iN q.i))(h3:(iN q.i<iN q.nb.size))(h4:(CT UB 146 [] [AV.int IntKind.u8 (bAt q.nb (iN q.i).toNat)] [] (AV.bool (AN (bAt q.nb (iN q.i).toNat)))))(h5:((!AN (bAt q.nb (iN q.i).toNat))=true))(h6:(decide (bAt q.nb (iN q.i).toNat<48)=true))(h7:((bAt q.nb (iN q.i).toNat != 45)=true))(h8:((bAt q.nb (iN q.i).toNat != 95)=true)):GoO UB (hU [43,61,67,85,91] (BL q) (AL q)) 0 (zC (zB Try.f140) 0) (zK (zB Try.f140) 0) (C9 q) (Fin UB Try.f140 0 [] (AV.bool false)):=zF (σ:=[]) (fz:=[]) (by kernel_rfl) (aj (al (aj (u2 (u2 (u2 (al t3)))) (aj h1 (aj (u2 (u2 (aj (k2 (aj h2 h3)) s2))) (aj (u2 (aj (k2 (al h4)) (u2 (u2 (ag h5 (ag h5 (ag h5 (aj h6 (aj h6 (aj (aj h5 (aj h6 t2)) (ag h5 (u2 (aj t3 (aj t3 (aj t3 (u2 (ag h7 (ag h7 (al (aj h7 t2)))))))))))))))))))) (aj h8 s2)))))) t2)
theorem rnl_1(q:AE)(h1:(decide (iN q.i<iN q.nb.size)=true))(h2:(0<=iN q.i))(h3:(iN q.i<iN q.nb.size))(h4:(CT UB 146 [] [AV.int IntKind.u8 (bAt q.nb (iN q.i).toNat)] [] (AV.bool (AN (bAt q.nb (iN q.i).toNat)))))(h5:((!AN (bAt q.nb (iN q.i).toNat))=true))(h6:(decide (bAt q.nb (iN q.i).toNat<48)=true))(h7:((bAt q.nb (iN q.i).toNat != 45)=true))(h8:((bAt q.nb (iN q.i).toNat != 95)=false)){post:Exit->St->Prop}{R:St->Prop}(hR:∀st,Ren 0 st (St.mk 46 [(0,AV.str q.nb),(3,iv (i64.wrap (iN q.i+1)))] [])->R st):GoP UB (hU [43,61,67,85,90] (BL q) (AL q)) 0 (zC (zB Try.f140) 0) (C9 q) (andThen R post):=zN (σ:=[]) (fz:=[]) (vars:=[0,3]) (by kernel_rfl) (aj (aj (u2 (u2 (u2 (al t3)))) (aj h1 (aj (u2 (u2 (aj (k2 (aj h2 h3)) s2))) (aj (u2 (aj (k2 (al h4)) (u2 (u2 (ag h5 (ag h5 (ag h5 (aj h6 (aj h6 (aj (aj h5 (aj h6 t2)) (ag h5 (u2 (aj t3 (aj t3 (aj t3 (u2 (ag h7 (ag h7 (al (aj h7 t2)))))))))))))))))))) (aj h8 (al (u2 (u2 s2)))))))) t3) hR
theorem rnl_2(q:AE)(h1:(decide (iN q.i<iN q.nb.size)=true))(h2:(0<=iN q.i))(h3:(iN q.i<iN q.nb.size))(h4:(CT UB 146 [] [AV.int IntKind.u8 (bAt q.nb (iN q.i).toNat)] [] (AV.bool (AN (bAt q.nb (iN q.i).toNat)))))(h5:((!AN (bAt q.nb (iN q.i).toNat))=true))(h6:(decide (bAt q.nb (iN q.i).toNat<48)=true))(h7:((bAt q.nb (iN q.i).toNat != 45)=false)){post:Exit->St->Prop}{R:St->Prop}(hR:∀st,Ren 0 st (St.mk 46 [(0,AV.str q.nb),(3,iv (i64.wrap (iN q.i+1)))] [])->R st):GoP UB (hU [43,61,67,84] (BL q) (AL q)) 0 (zC (zB Try.f140) 0) (C9 q) (andThen R post):=zN (σ:=[]) (fz:=[]) (vars:=[0,3]) (by kernel_rfl) (aj (aj (u2 (u2 (u2 (al t3)))) (aj h1 (aj (u2 (u2 (aj (k2 (aj h2 h3)) s2))) (aj (u2 (aj (k2 (al h4)) (u2 (u2 (ag h5 (ag h5 (ag h5 (aj h6 (aj h6 (aj (aj h5 (aj h6 t2)) (ag h5 (u2 (aj t3 (aj t3 (aj t3 (u2 (aj h7 (aj h7 (al (aj h7 t2)))))))))))))))))))) (ak (al (u2 (u2 s2)))))))) t3) hR
theorem rnl_3(q:AE)(h1:(decide (iN q.i<iN q.nb.size)=true))(h2:(0<=iN q.i))(h3:(iN q.i<iN q.nb.size))(h4:(CT UB 146 [] [AV.int IntKind.u8 (bAt q.nb (iN q.i).toNat)] [] (AV.bool (AN (bAt q.nb (iN q.i).toNat)))))(h5:((!AN (bAt q.nb (iN q.i).toNat))=true))(h6:(decide (bAt q.nb (iN q.i).toNat<48)=false))(h7:(decide (57<bAt q.nb (iN q.i).toNat)=true))(h8:((bAt q.nb (iN q.i).toNat != 45)=true))(h9:((bAt q.nb (iN q.i).toNat != 95)=true)):GoO UB (hU [43,61,66,77,85,91] (BL q) (AL q)) 0 (zC (zB Try.f140) 0) (zK (zB Try.f140) 0) (C9 q) (Fin UB Try.f140 0 [] (AV.bool false)):=zF (σ:=[]) (fz:=[]) (by kernel_rfl) (aj (al (aj (u2 (u2 (u2 (al t3)))) (aj h1 (aj (u2 (u2 (aj (k2 (aj h2 h3)) s2))) (aj (u2 (aj (k2 (al h4)) (u2 (u2 (ag h5 (ag h5 (ag h5 (ag h6 (ag h6 (aj (aj h5 (aj h6 t2)) (ag h5 (u2 (ag h7 (ag h7 (ag h7 (u2 (ag h8 (ag h8 (al (aj h8 t2)))))))))))))))))))) (aj h9 s2)))))) t2)
theorem rnl_4(q:AE)(h1:(decide (iN q.i<iN q.nb.size)=true))(h2:(0<=iN q.i))(h3:(iN q.i<iN q.nb.size))(h4:(CT UB 146 [] [AV.int IntKind.u8 (bAt q.nb (iN q.i).toNat)] [] (AV.bool (AN (bAt q.nb (iN q.i).toNat)))))(h5:((!AN (bAt q.nb (iN q.i).toNat))=true))(h6:(decide (bAt q.nb (iN q.i).toNat<48)=false))(h7:(decide (57<bAt q.nb (iN q.i).toNat)=true))(h8:((bAt q.nb (iN q.i).toNat != 45)=true))(h9:((bAt q.nb (iN q.i).toNat != 95)=false)){post:Exit->St->Prop}{R:St->Prop}(hR:∀st,Ren 0 st (St.mk 46 [(0,AV.str q.nb),(3,iv (i64.wrap (iN q.i+1)))] [])->R st):GoP UB (hU [43,61,66,77,85,90] (BL q) (AL q)) 0 (zC (zB Try.f140) 0) (C9 q) (andThen R post):=zN (σ:=[]) (fz:=[]) (vars:=[0,3]) (by kernel_rfl) (aj (aj (u2 (u2 (u2 (al t3)))) (aj h1 (aj (u2 (u2 (aj (k2 (aj h2 h3)) s2))) (aj (u2 (aj (k2 (al h4)) (u2 (u2 (ag h5 (ag h5 (ag h5 (ag h6 (ag h6 (aj (aj h5 (aj h6 t2)) (ag h5 (u2 (ag h7 (ag h7 (ag h7 (u2 (ag h8 (ag h8 (al (aj h8 t2)))))))))))))))))))) (aj h9 (al (u2 (u2 s2)))))))) t3) hR
theorem rnl_5(q:AE)(h1:(decide (iN q.i<iN q.nb.size)=true))(h2:(0<=iN q.i))(h3:(iN q.i<iN q.nb.size))(h4:(CT UB 146 [] [AV.int IntKind.u8 (bAt q.nb (iN q.i).toNat)] [] (AV.bool (AN (bAt q.nb (iN q.i).toNat)))))(h5:((!AN (bAt q.nb (iN q.i).toNat))=true))(h6:(decide (bAt q.nb (iN q.i).toNat<48)=false))(h7:(decide (57<bAt q.nb (iN q.i).toNat)=true))(h8:((bAt q.nb (iN q.i).toNat != 45)=false)){post:Exit->St->Prop}{R:St->Prop}(hR:∀st,Ren 0 st (St.mk 46 [(0,AV.str q.nb),(3,iv (i64.wrap (iN q.i+1)))] [])->R st):GoP UB (hU [43,61,66,77,84] (BL q) (AL q)) 0 (zC (zB Try.f140) 0) (C9 q) (andThen R post):=zN (σ:=[]) (fz:=[]) (vars:=[0,3]) (by kernel_rfl) (aj (aj (u2 (u2 (u2 (al t3)))) (aj h1 (aj (u2 (u2 (aj (k2 (aj h2 h3)) s2))) (aj (u2 (aj (k2 (al h4)) (u2 (u2 (ag h5 (ag h5 (ag h5 (ag h6 (ag h6 (aj (aj h5 (aj h6 t2)) (ag h5 (u2 (ag h7 (ag h7 (ag h7 (u2 (aj h8 (aj h8 (al (aj h8 t2)))))))))))))))))))) (ak (al (u2 (u2 s2)))))))) t3) hR
theorem rnl_6(q:AE)(h1:(decide (iN q.i<iN q.nb.size)=true))(h2:(0<=iN q.i))(h3:(iN q.i<iN q.nb.size))(h4:(CT UB 146 [] [AV.int IntKind.u8 (bAt q.nb (iN q.i).toNat)] [] (AV.bool (AN (bAt q.nb (iN q.i).toNat)))))(h5:((!AN (bAt q.nb (iN q.i).toNat))=true))(h6:(decide (bAt q.nb (iN q.i).toNat<48)=false))(h7:(decide (57<bAt q.nb (iN q.i).toNat)=false)){post:Exit->St->Prop}{R:St->Prop}(hR:∀st,Ren 0 st (St.mk 46 [(0,AV.str q.nb),(3,iv (i64.wrap (iN q.i+1)))] [])->R st):GoP UB (hU [43,61,66,76] (BL q) (AL q)) 0 (zC (zB Try.f140) 0) (C9 q) (andThen R post):=zN (σ:=[]) (fz:=[]) (vars:=[0,3]) (by kernel_rfl) (aj (aj (u2 (u2 (u2 (al t3)))) (aj h1 (aj (u2 (u2 (aj (k2 (aj h2 h3)) s2))) (aj (u2 (aj (k2 (al h4)) (u2 (u2 (ag h5 (ag h5 (ag h5 (ag h6 (ag h6 (aj (aj h5 (aj h6 t2)) (ag h5 (u2 (aj h7 (aj h7 (ag h7 (u2 (k2 (al t3)))))))))))))))))) (ak (al (u2 (u2 s2)))))))) t3) hR
theorem rnl_7(q:AE)(h1:(decide (iN q.i<iN q.nb.size)=true))(h2:(0<=iN q.i))(h3:(iN q.i<iN q.nb.size))(h4:(CT UB 146 [] [AV.int IntKind.u8 (bAt q.nb (iN q.i).toNat)] [] (AV.bool (AN (bAt q.nb (iN q.i).toNat)))))(h5:((!AN (bAt q.nb (iN q.i).toNat))=false)){post:Exit->St->Prop}{R:St->Prop}(hR:∀st,Ren 0 st (St.mk 46 [(0,AV.str q.nb),(3,iv (i64.wrap (iN q.i+1)))] [])->R st):GoP UB (hU [43,60] (BL q) (AL q)) 0 (zC (zB Try.f140) 0) (C9 q) (andThen R post):=zN (σ:=[]) (fz:=[]) (vars:=[0,3]) (by kernel_rfl) (aj (aj (u2 (u2 (u2 (al t3)))) (aj h1 (aj (u2 (u2 (aj (k2 (aj h2 h3)) s2))) (aj (u2 (aj (k2 (al h4)) (u2 (u2 (aj h5 (aj h5 (aj h5 (k2 (aj h5 (ag h5 (u2 (k2 (aj t3 (u2 (k2 (al t3)))))))))))))))) (ak (al (u2 (u2 s2)))))))) t3) hR
theorem rnl_8(q:AE)(h1:(decide (iN q.i<iN q.nb.size)=false)):GoO UB (hU [42] (BL q) (AL q)) 0 (zC (zB Try.f140) 0) (zK (zB Try.f140) 0) (C9 q) (Fin UB Try.f140 0 [] (AV.bool true)):=zF (σ:=[]) (fz:=[]) (by kernel_rfl) (aj (aj (aj (u2 (u2 (u2 (al t3)))) (al h1)) s2) t2)
theorem mvc_0(q:AE)(h1:(CT UB 127 [] [iv q.n.q,iv 1,iv 8] [] (AV.bool (Av q.n.q 1 8))))(h2:(Av q.n.q 1 8=true))(h3:(CT UB 127 [] [iv q.n.a,iv 0,iv 4] [] (AV.bool (Av q.n.a 0 4))))(h4:(Av q.n.a 0 4=true))(h5:(CT UB 127 [] [iv q.n.d,iv 0,iv 3] [] (AV.bool (Av q.n.d 0 3))))(h6:(Av q.n.d 0 3=true))(h7:(CT UB 127 [] [iv q.n.p,iv 1,iv 16] [] (AV.bool (Av q.n.p 1 16)))):GoP UB (hU [13,23,33] (BL q) (AL q)) 0 (zB Try.f128) (KQ q) (Fin UB Try.f128 0 [] (AV.bool (Av q.n.p 1 16))):=zF (σ:=[]) (fz:=[]) (by kernel_rfl) (aj (ag t2 (al (u2 (u2 (aj (ak (k3 (al h1))) (u2 (ag h2 (ag h2 (aj (aj h2 (ak (k3 (al h3)))) (ag h2 (u2 (ag h4 (ag h4 (aj (aj h4 (ak (k3 (al h5)))) (ag h4 (u2 (ag h6 (ag h6 (aj (aj h6 (ak (k3 (al h7)))) (ag h6 s2)))))))))))))))))))) t2)
theorem mvc_1(q:AE)(h1:(CT UB 127 [] [iv q.n.q,iv 1,iv 8] [] (AV.bool (Av q.n.q 1 8))))(h2:(Av q.n.q 1 8=true))(h3:(CT UB 127 [] [iv q.n.a,iv 0,iv 4] [] (AV.bool (Av q.n.a 0 4))))(h4:(Av q.n.a 0 4=true))(h5:(CT UB 127 [] [iv q.n.d,iv 0,iv 3] [] (AV.bool (Av q.n.d 0 3))))(h6:(Av q.n.d 0 3=false)):GoP UB (hU [13,23,32] (BL q) (AL q)) 0 (zB Try.f128) (KQ q) (Fin UB Try.f128 0 [] (AV.bool false)):=zF (σ:=[]) (fz:=[]) (by kernel_rfl) (aj (ag t2 (al (u2 (u2 (aj (ak (k3 (al h1))) (u2 (ag h2 (ag h2 (aj (aj h2 (ak (k3 (al h3)))) (ag h2 (u2 (ag h4 (ag h4 (aj (aj h4 (ak (k3 (al h5)))) (ag h4 (u2 (aj h6 (aj h6 (aj h6 (ag h6 s2)))))))))))))))))))) t2)
theorem mvc_2(q:AE)(h1:(CT UB 127 [] [iv q.n.q,iv 1,iv 8] [] (AV.bool (Av q.n.q 1 8))))(h2:(Av q.n.q 1 8=true))(h3:(CT UB 127 [] [iv q.n.a,iv 0,iv 4] [] (AV.bool (Av q.n.a 0 4))))(h4:(Av q.n.a 0 4=false)):GoP UB (hU [13,22] (BL q) (AL q)) 0 (zB Try.f128) (KQ q) (Fin UB Try.f128 0 [] (AV.bool false)):=zF (σ:=[]) (fz:=[]) (by kernel_rfl) (aj (ag t2 (al (u2 (u2 (aj (ak (k3 (al h1))) (u2 (ag h2 (ag h2 (aj (aj h2 (ak (k3 (al h3)))) (ag h2 (u2 (aj h4 (aj h4 (aj h4 (ag h4 (u2 (k3 (aj t3 s2)))))))))))))))))) t2)
theorem mvc_3(q:AE)(h1:(CT UB 127 [] [iv q.n.q,iv 1,iv 8] [] (AV.bool (Av q.n.q 1 8))))(h2:(Av q.n.q 1 8=false)):GoP UB (hU [12] (BL q) (AL q)) 0 (zB Try.f128) (KQ q) (Fin UB Try.f128 0 [] (AV.bool false)):=zF (σ:=[]) (fz:=[]) (by kernel_rfl) (aj (ag t2 (al (u2 (u2 (aj (ak (k3 (al h1))) (u2 (aj h2 (aj h2 (aj h2 (ag h2 (u2 (k3 (aj t3 (u2 (k3 (aj t3 s2)))))))))))))))) t2)
theorem cg_0(q:AE)(h1:(decide (1<=q.n.q)=true))(h2:(decide (q.n.q<=8)=true))(h3:(decide (0<=q.n.a)=true))(h4:(decide (q.n.a<=4)=true))(h5:(decide (0<=q.n.d)=true))(h6:(decide (q.n.d<=3)=true))(h7:(decide (1<=q.n.p)=true)):GoP UB (hU [13,23,33,43,53,63,73] (BL q) (AL q)) 0 (zB Try.f115) (FJ q) (Fin UB Try.f115 0 [] (AV.bool (decide (q.n.p<=16)))):=zF (σ:=[]) (fz:=[]) (by kernel_rfl) (aj (ag t2 (al (u2 (u2 (u2 (u2 (ag h1 (ag h1 (ag h1 (ag h1 (u2 (ag h2 (ag h2 (ag h2 (ag h2 (u2 (ag h3 (ag h3 (ag h3 (ag h3 (u2 (ag h4 (ag h4 (ag h4 (ag h4 (u2 (ag h5 (ag h5 (ag h5 (ag h5 (u2 (ag h6 (ag h6 (ag h6 (ag h6 (u2 (ag h7 (ag h7 (ag h7 (ag h7 s2)))))))))))))))))))))))))))))))))))))))) t2)
theorem cg_1(q:AE)(h1:(decide (1<=q.n.q)=true))(h2:(decide (q.n.q<=8)=true))(h3:(decide (0<=q.n.a)=true))(h4:(decide (q.n.a<=4)=true))(h5:(decide (0<=q.n.d)=true))(h6:(decide (q.n.d<=3)=true))(h7:(decide (1<=q.n.p)=false)):GoP UB (hU [13,23,33,43,53,63,72] (BL q) (AL q)) 0 (zB Try.f115) (FJ q) (Fin UB Try.f115 0 [] (AV.bool false)):=zF (σ:=[]) (fz:=[]) (by kernel_rfl) (aj (ag t2 (al (u2 (u2 (u2 (u2 (ag h1 (ag h1 (ag h1 (ag h1 (u2 (ag h2 (ag h2 (ag h2 (ag h2 (u2 (ag h3 (ag h3 (ag h3 (ag h3 (u2 (ag h4 (ag h4 (ag h4 (ag h4 (u2 (ag h5 (ag h5 (ag h5 (ag h5 (u2 (ag h6 (ag h6 (ag h6 (ag h6 (u2 (aj h7 (aj h7 (aj h7 (ag h7 s2)))))))))))))))))))))))))))))))))))))))) t2)
theorem cg_2(q:AE)(h1:(decide (1<=q.n.q)=true))(h2:(decide (q.n.q<=8)=true))(h3:(decide (0<=q.n.a)=true))(h4:(decide (q.n.a<=4)=true))(h5:(decide (0<=q.n.d)=true))(h6:(decide (q.n.d<=3)=false)):GoP UB (hU [13,23,33,43,53,62] (BL q) (AL q)) 0 (zB Try.f115) (FJ q) (Fin UB Try.f115 0 [] (AV.bool false)):=zF (σ:=[]) (fz:=[]) (by kernel_rfl) (aj (ag t2 (al (u2 (u2 (u2 (u2 (ag h1 (ag h1 (ag h1 (ag h1 (u2 (ag h2 (ag h2 (ag h2 (ag h2 (u2 (ag h3 (ag h3 (ag h3 (ag h3 (u2 (ag h4 (ag h4 (ag h4 (ag h4 (u2 (ag h5 (ag h5 (ag h5 (ag h5 (u2 (aj h6 (aj h6 (aj h6 (ag h6 (u2 (k3 (aj t3 s2)))))))))))))))))))))))))))))))))))))) t2)
theorem cg_3(q:AE)(h1:(decide (1<=q.n.q)=true))(h2:(decide (q.n.q<=8)=true))(h3:(decide (0<=q.n.a)=true))(h4:(decide (q.n.a<=4)=true))(h5:(decide (0<=q.n.d)=false)):GoP UB (hU [13,23,33,43,52] (BL q) (AL q)) 0 (zB Try.f115) (FJ q) (Fin UB Try.f115 0 [] (AV.bool false)):=zF (σ:=[]) (fz:=[]) (by kernel_rfl) (aj (ag t2 (al (u2 (u2 (u2 (u2 (ag h1 (ag h1 (ag h1 (ag h1 (u2 (ag h2 (ag h2 (ag h2 (ag h2 (u2 (ag h3 (ag h3 (ag h3 (ag h3 (u2 (ag h4 (ag h4 (ag h4 (ag h4 (u2 (aj h5 (aj h5 (aj h5 (ag h5 (u2 (k3 (aj t3 (u2 (k3 (aj t3 s2)))))))))))))))))))))))))))))))))))) t2)
theorem cg_4(q:AE)(h1:(decide (1<=q.n.q)=true))(h2:(decide (q.n.q<=8)=true))(h3:(decide (0<=q.n.a)=true))(h4:(decide (q.n.a<=4)=false)):GoP UB (hU [13,23,33,42] (BL q) (AL q)) 0 (zB Try.f115) (FJ q) (Fin UB Try.f115 0 [] (AV.bool false)):=zF (σ:=[]) (fz:=[]) (by kernel_rfl) (aj (ag t2 (al (u2 (u2 (u2 (u2 (ag h1 (ag h1 (ag h1 (ag h1 (u2 (ag h2 (ag h2 (ag h2 (ag h2 (u2 (ag h3 (ag h3 (ag h3 (ag h3 (u2 (aj h4 (aj h4 (aj h4 (ag h4 (u2 (k3 (aj t3 (u2 (k3 (aj t3 (u2 (k3 (aj t3 s2)))))))))))))))))))))))))))))))))) t2)
theorem cg_5(q:AE)(h1:(decide (1<=q.n.q)=true))(h2:(decide (q.n.q<=8)=true))(h3:(decide (0<=q.n.a)=false)):GoP UB (hU [13,23,32] (BL q) (AL q)) 0 (zB Try.f115) (FJ q) (Fin UB Try.f115 0 [] (AV.bool false)):=zF (σ:=[]) (fz:=[]) (by kernel_rfl) (aj (ag t2 (al (u2 (u2 (u2 (u2 (ag h1 (ag h1 (ag h1 (ag h1 (u2 (ag h2 (ag h2 (ag h2 (ag h2 (u2 (aj h3 (aj h3 (aj h3 (ag h3 (u2 (k3 (aj t3 (u2 (k3 (aj t3 (u2 (k3 (aj t3 (u2 (k3 (aj t3 s2)))))))))))))))))))))))))))))))) t2)
theorem cg_6(q:AE)(h1:(decide (1<=q.n.q)=true))(h2:(decide (q.n.q<=8)=false)):GoP UB (hU [13,22] (BL q) (AL q)) 0 (zB Try.f115) (FJ q) (Fin UB Try.f115 0 [] (AV.bool false)):=zF (σ:=[]) (fz:=[]) (by kernel_rfl) (aj (ag t2 (al (u2 (u2 (u2 (u2 (ag h1 (ag h1 (ag h1 (ag h1 (u2 (aj h2 (aj h2 (aj h2 (ag h2 (u2 (k3 (aj t3 (u2 (k3 (aj t3 (u2 (k3 (aj t3 (u2 (k3 (aj t3 (u2 (k3 (aj t3 s2)))))))))))))))))))))))))))))) t2)
theorem cg_7(q:AE)(h1:(decide (1<=q.n.q)=false)):GoP UB (hU [12] (BL q) (AL q)) 0 (zB Try.f115) (FJ q) (Fin UB Try.f115 0 [] (AV.bool false)):=zF (σ:=[]) (fz:=[]) (by kernel_rfl) (aj (ag t2 (al (u2 (u2 (u2 (u2 (aj h1 (aj h1 (aj h1 (ag h1 (u2 (k3 (aj t3 (u2 (k3 (aj t3 (u2 (k3 (aj t3 (u2 (k3 (aj t3 (u2 (k3 (aj t3 (u2 (k3 (aj t3 s2)))))))))))))))))))))))))))) t2)
theorem vni_0(q:AE){post:Exit->St->Prop}(ht:T UB 0 (.loop (zC (zB Try.f130) 0)) (St.mk 34 [(0,UA (Uu iv q.r)),(1,iv q.x),(2,iv q.y),(7,iv (-1)),(10,UA (Uu iv q.r)),(11,iv (iN (Uu iv q.r).length)),(12,iv 0)] []) (TK UB 0 post (zK (zB Try.f130) 0))):GoP UB (hU [] (Hj q) (AL q)) 0 (zB Try.f130) (st152 q) post:=zR (σ:=[]) (fz:=[]) (vars:=[0,1,2,7,10,11,12]) (by kernel_rfl) (aj (u2 (u2 (al (u2 (u2 t2))))) t8) ht
theorem vnl_0(q:AE)(h1:(decide (iN q.i<iN (Uu iv q.r).length)=true))(h2:(0<=iN q.i))(h3:((Uu iv q.r)[(iN q.i).toNat]?=some (iv q.base)))(h4:(decide (q.base<=q.z)=true)):GoO UB (hU [27,39] (Hj q) (AL q)) 0 (zC (zB Try.f130) 0) (zK (zB Try.f130) 0) (EW q) (Fin UB Try.f130 0 [] (AV.bool false)):=zF (σ:=[]) (fz:=[]) (by kernel_rfl) (aj (al (aj (al t3) (aj h1 (aj (aj (k2 (aj h2 h3)) (u2 s2)) (aj (u2 (u2 (aj t3 (u2 (aj h4 (aj h4 (aj h4 (ag h4 (u2 (k3 (al t3))))))))))) (ak s2)))))) t2)
theorem vnl_1(q:AE)(h1:(decide (iN q.i<iN (Uu iv q.r).length)=true))(h2:(0<=iN q.i))(h3:((Uu iv q.r)[(iN q.i).toNat]?=some (iv q.base)))(h4:(decide (q.base<=q.z)=false))(h5:(decide (q.y<=q.base)=true)):GoO UB (hU [27,38,49] (Hj q) (AL q)) 0 (zC (zB Try.f130) 0) (zK (zB Try.f130) 0) (EW q) (Fin UB Try.f130 0 [] (AV.bool false)):=zF (σ:=[]) (fz:=[]) (by kernel_rfl) (aj (al (aj (al t3) (aj h1 (aj (aj (k2 (aj h2 h3)) (u2 s2)) (aj (u2 (u2 (aj t3 (u2 (ag h4 (ag h4 (aj (aj h4 t3) (ag h4 (u2 (aj h5 (aj h5 (aj h5 (al (aj h5 t2)))))))))))))) (ak s2)))))) t2)
theorem vnl_2(q:AE)(h1:(decide (iN q.i<iN (Uu iv q.r).length)=true))(h2:(0<=iN q.i))(h3:((Uu iv q.r)[(iN q.i).toNat]?=some (iv q.base)))(h4:(decide (q.base<=q.z)=false))(h5:(decide (q.y<=q.base)=false))(h6:((q.base==q.x)=true)):GoO UB (hU [27,38,48,57] (Hj q) (AL q)) 0 (zC (zB Try.f130) 0) (zK (zB Try.f130) 0) (EW q) (Fin UB Try.f130 0 [] (AV.bool false)):=zF (σ:=[]) (fz:=[]) (by kernel_rfl) (aj (al (aj (al t3) (aj h1 (aj (aj (k2 (aj h2 h3)) (u2 s2)) (aj (u2 (u2 (aj t3 (u2 (ag h4 (ag h4 (aj (aj h4 t3) (ag h4 (u2 (ag h5 (ag h5 (aj (aj h5 t3) (al (aj h5 t2)))))))))))))) (aj h6 s2)))))) t2)
theorem vnl_3(q:AE)(h1:(decide (iN q.i<iN (Uu iv q.r).length)=true))(h2:(0<=iN q.i))(h3:((Uu iv q.r)[(iN q.i).toNat]?=some (iv q.base)))(h4:(decide (q.base<=q.z)=false))(h5:(decide (q.y<=q.base)=false))(h6:((q.base==q.x)=false)){post:Exit->St->Prop}{R:St->Prop}(hR:∀st,Ren 0 st (St.mk 34 [(0,UA (Uu iv q.r)),(1,iv q.x),(2,iv q.y),(7,iv q.base),(10,UA (Uu iv q.r)),(11,iv (iN (Uu iv q.r).length)),(12,iv (i64.wrap (iN q.i+1)))] [])->R st):GoP UB (hU [27,38,48,56] (Hj q) (AL q)) 0 (zC (zB Try.f130) 0) (EW q) (andThen R post):=zN (σ:=[]) (fz:=[]) (vars:=[0,1,2,7,10,11,12]) (by kernel_rfl) (aj (aj (al t3) (aj h1 (aj (aj (k2 (aj h2 h3)) (u2 s2)) (aj (u2 (u2 (aj t3 (u2 (ag h4 (ag h4 (aj (aj h4 t3) (ag h4 (u2 (ag h5 (ag h5 (aj (aj h5 t3) (al (aj h5 t2)))))))))))))) (aj h6 (aj (u2 s2) (al (u2 s2)))))))) t8) hR
theorem vnl_4(q:AE)(h1:(decide (iN q.i<iN (Uu iv q.r).length)=false)):GoO UB (hU [26] (Hj q) (AL q)) 0 (zC (zB Try.f130) 0) (zK (zB Try.f130) 0) (EW q) (Fin UB Try.f130 0 [] (AV.bool (decide (iN (Uu iv q.r).length<=4)))):=zF (σ:=[]) (fz:=[]) (by kernel_rfl) (aj (aj (aj (al t3) (al h1)) (al (u2 (u2 (u2 s2))))) t2)
theorem mvi_0(q:AE)(h1:(CT UB 127 [] [iv (iN (Uu bA q.n.bs).length),iv 1,iv 24] [] (AV.bool (Av (iN (Uu bA q.n.bs).length) 1 24))))(h2:((!Av (iN (Uu bA q.n.bs).length) 1 24)=true)):GoP UB (hU [37] (Bx q) (AL q)) 0 (zB Try.f93) (Hf q) (Fin UB Try.f93 0 [] (AV.bool false)):=zF (σ:=[]) (fz:=[]) (by kernel_rfl) (aj (ag t2 (aj (u2 (u2 (u2 (aj (ak (k3 (al h1))) (u2 (u2 (aj h2 (aj h2 (aj h2 (aj h2 (aj h2 (aj h2 (aj h2 (ag h2 (u2 (ak (k3 (aj t3 (u2 (ak (k3 (aj t3 (u2 (ak (k3 (al t3)))))))))))))))))))))))))) (ak s2))) t2)
theorem mvi_1(q:AE)(h1:(CT UB 127 [] [iv (iN (Uu bA q.n.bs).length),iv 1,iv 24] [] (AV.bool (Av (iN (Uu bA q.n.bs).length) 1 24))))(h2:((!Av (iN (Uu bA q.n.bs).length) 1 24)=false))(h3:((iN (gL q.n.nx).length != iN (Uu bA q.n.bs).length)=true)):GoP UB (hU [36,55] (Bx q) (AL q)) 0 (zB Try.f93) (Hf q) (Fin UB Try.f93 0 [] (AV.bool false)):=zF (σ:=[]) (fz:=[]) (by kernel_rfl) (aj (ag t2 (aj (u2 (u2 (u2 (aj (ak (k3 (al h1))) (u2 (u2 (ag h2 (ag h2 (ag h2 (ag h2 (ag h2 (ag h2 (aj (aj h2 t3) (ag h2 (u2 (aj h3 (aj h3 (aj h3 (aj h3 (ag h3 (u2 (ak (k3 (aj t3 (u2 (ak (k3 (al t3)))))))))))))))))))))))))))) (ak s2))) t2)
theorem mvi_2(q:AE)(h1:(CT UB 127 [] [iv (iN (Uu bA q.n.bs).length),iv 1,iv 24] [] (AV.bool (Av (iN (Uu bA q.n.bs).length) 1 24))))(h2:((!Av (iN (Uu bA q.n.bs).length) 1 24)=false))(h3:((iN (gL q.n.nx).length != iN (Uu bA q.n.bs).length)=false))(h4:(decide (6<iN (Uu sA q.n.ss).length)=true)):GoP UB (hU [36,54,67] (Bx q) (AL q)) 0 (zB Try.f93) (Hf q) (Fin UB Try.f93 0 [] (AV.bool false)):=zF (σ:=[]) (fz:=[]) (by kernel_rfl) (aj (ag t2 (aj (u2 (u2 (u2 (aj (ak (k3 (al h1))) (u2 (u2 (ag h2 (ag h2 (ag h2 (ag h2 (ag h2 (ag h2 (aj (aj h2 t3) (ag h2 (u2 (ag h3 (ag h3 (ag h3 (ag h3 (ag h3 (u2 (aj h4 (aj h4 (aj h4 (aj h4 (ag h4 (u2 (ak (k3 (al t3)))))))))))))))))))))))))))))) (ak s2))) t2)
theorem mvi_3(q:AE)(h1:(CT UB 127 [] [iv (iN (Uu bA q.n.bs).length),iv 1,iv 24] [] (AV.bool (Av (iN (Uu bA q.n.bs).length) 1 24))))(h2:((!Av (iN (Uu bA q.n.bs).length) 1 24)=false))(h3:((iN (gL q.n.nx).length != iN (Uu bA q.n.bs).length)=false))(h4:(decide (6<iN (Uu sA q.n.ss).length)=false))(h5:(decide (8<iN (Uu iv q.n.rs).length)=true)):GoP UB (hU [36,54,66,79] (Bx q) (AL q)) 0 (zB Try.f93) (Hf q) (Fin UB Try.f93 0 [] (AV.bool false)):=zF (σ:=[]) (fz:=[]) (by kernel_rfl) (aj (ag t2 (aj (u2 (u2 (u2 (aj (ak (k3 (al h1))) (u2 (u2 (ag h2 (ag h2 (ag h2 (ag h2 (ag h2 (ag h2 (aj (aj h2 t3) (ag h2 (u2 (ag h3 (ag h3 (ag h3 (ag h3 (ag h3 (u2 (ag h4 (ag h4 (ag h4 (ag h4 (ag h4 (u2 (aj h5 (aj h5 (aj h5 (aj h5 (al (aj h5 t2))))))))))))))))))))))))))))))))) (ak s2))) t2)
theorem mvi_4(q:AE)(h1:(CT UB 127 [] [iv (iN (Uu bA q.n.bs).length),iv 1,iv 24] [] (AV.bool (Av (iN (Uu bA q.n.bs).length) 1 24))))(h2:((!Av (iN (Uu bA q.n.bs).length) 1 24)=false))(h3:((iN (gL q.n.nx).length != iN (Uu bA q.n.bs).length)=false))(h4:(decide (6<iN (Uu sA q.n.ss).length)=false))(h5:(decide (8<iN (Uu iv q.n.rs).length)=false))(h6:(CT UB 128 [] [AV.agg [iv q.n.q,iv q.n.a,iv q.n.d,iv q.n.p]] [] (AV.bool (A9 q.n))))(h7:((!A9 q.n)=true)):GoP UB (hU [36,54,66,78,89] (Bx q) (AL q)) 0 (zB Try.f93) (Hf q) (Fin UB Try.f93 0 [] (AV.bool false)):=zF (σ:=[]) (fz:=[]) (by kernel_rfl) (aj (ag t2 (aj (u2 (u2 (u2 (aj (ak (k3 (al h1))) (u2 (u2 (ag h2 (ag h2 (ag h2 (ag h2 (ag h2 (ag h2 (aj (aj h2 t3) (ag h2 (u2 (ag h3 (ag h3 (ag h3 (ag h3 (ag h3 (u2 (ag h4 (ag h4 (ag h4 (ag h4 (ag h4 (u2 (ag h5 (ag h5 (aj (aj h5 (ak (aj t5 (al h6)))) (ag h5 (al (aj h5 t2))))))))))))))))))))))))))))))))) (aj h7 s2))) t2)
theorem mvi_5(q:AE)(h1:(CT UB 127 [] [iv (iN (Uu bA q.n.bs).length),iv 1,iv 24] [] (AV.bool (Av (iN (Uu bA q.n.bs).length) 1 24))))(h2:((!Av (iN (Uu bA q.n.bs).length) 1 24)=false))(h3:((iN (gL q.n.nx).length != iN (Uu bA q.n.bs).length)=false))(h4:(decide (6<iN (Uu sA q.n.ss).length)=false))(h5:(decide (8<iN (Uu iv q.n.rs).length)=false))(h6:(CT UB 128 [] [AV.agg [iv q.n.q,iv q.n.a,iv q.n.d,iv q.n.p]] [] (AV.bool (A9 q.n))))(h7:((!A9 q.n)=false)){post:Exit->St->Prop}(ht:T UB 0 (.loop (zC (zB Try.f93) 0)) (St.mk 185 [(1,AV.ptr 0 0 0),(3,AV.map 1),(47,UA (Uu bA q.n.bs)),(48,iv (iN (Uu bA q.n.bs).length)),(49,iv 0)] [some (Blk.mk [Ai q.n] [UA (Uu bA q.n.bs),UA (gL q.n.nx),UA (Uu sA q.n.ss),UA (Uu iv q.n.rs),iv q.n.q,iv q.n.a,iv q.n.d,iv q.n.p].length true true none),some (Blk.mk [] 0 true true (some ([],0)))]) (TK UB 0 post (zK (zB Try.f93) 0))):GoP UB (hU [36,54,66,78,88] (Bx q) (AL q)) 0 (zB Try.f93) (Hf q) post:=zR (σ:=[0,1]) (fz:=[]) (vars:=[1,3,47,48,49]) (by kernel_rfl) (aj (ag t2 (aj (u2 (u2 (u2 (aj (ak (k3 (al h1))) (u2 (u2 (ag h2 (ag h2 (ag h2 (ag h2 (ag h2 (ag h2 (aj (aj h2 t3) (ag h2 (u2 (ag h3 (ag h3 (ag h3 (ag h3 (ag h3 (u2 (ag h4 (ag h4 (ag h4 (ag h4 (ag h4 (u2 (ag h5 (ag h5 (aj (aj h5 (ak (aj t5 (al h6)))) (ag h5 (al (aj h5 t2))))))))))))))))))))))))))))))))) (aj h7 (aj (ak s2) (al (u2 (u2 (u2 t2)))))))) t8) ht
theorem mvbx_0(q:AE)(h1:(decide (iN q.i<iN (Uu bA q.n.bs).length)=false)){post:Exit->St->Prop}(ht:T UB 0 (.loop (zC (zB Try.f93) 1)) (St.mk 185 [(1,AV.ptr 0 0 0),(3,AV.map 1),(6,iv (iN (Uu bA q.n.bs).length)),(7,AV.map 2),(94,UA (Uu sA q.n.ss)),(95,iv (iN (Uu sA q.n.ss).length)),(96,iv 0)] [some (Blk.mk [Ai q.n] 8 true true none),some (Blk.mk [] 0 true true (some (q.l,q.c))),some (Blk.mk [] 0 true true (some ([],0)))]) (TK UB 0 post (zK (zB Try.f93) 1))):GoO UB (hU [100] (Bx q) (AL q)) 0 (zC (zB Try.f93) 0) (zK (zB Try.f93) 0) (Ek q) post:=zR (σ:=[0,1,2]) (fz:=[]) (vars:=[1,3,6,7,94,95,96]) (by kernel_rfl) (aj (aj (aj (al t3) (al h1)) (aj (u2 (u2 (u2 (ak (u2 s2))))) (al (u2 (u2 (u2 t2)))))) (k2 t9)) ht
theorem mvb_0 (q : AE) (h1 : (decide (iN q.i < iN (Uu bA q.n.bs).length) = true)) (h2 : (0 <= iN q.i)) (h3 : ((Uu bA q.n.bs)[(iN q.i).toNat]? = some (AV.agg [AV.str q.b.nm, iv q.b.x, iv q.b.y]))) (h4 : (∀ (x : MapEntry), x ∈ q.l -> A2 (TypeInfo.mk TypeDesc.string "string" 1 16 true 8 8 (some (Value.string (ByteArray.mk #[]))) true #[]).desc x.key = true /\ BT (MK.i i64) x.val)) (h5 : (CT UB 129 [] [AV.str q.b.nm] [] (AV.bool (nmB q.b.nm)))) (h6 : ((!nmB q.b.nm) = true)) : GoO UB (hU [101, 127] (Bx q) (AL q)) 0 (zC (zB Try.f93) 0) (zK (zB Try.f93) 0) (Ek q) (Fin UB Try.f93 0 [] (AV.bool false)) :=
 zF (σ:=[]) (fz:=[]) (by kernel_rfl) (aj (al (aj (al t3) (aj h1 (aj (u2 (aj (k2 (aj h2 h3)) (u2 (ak (u2 (al (k2 (show Nat.le (nat_lit 1) (nat_lit 1) from nL rfl)))))))) (aj (u2 (u2 (u2 (aj (k2 h4) (u2 (al (k3 h4))))))) (aj (u2 (u2 (aj (k2 (al h5)) (u2 (u2 (aj h6 (aj h6 (aj h6 (aj h6 (ag h6 (u2 (ak (k3 (aj t3 (u2 (ak (k5 (k5 (al t3))))))))))))))))))) (ak s2))))))) t2)
theorem mvb_1 (q : AE) (h1 : (decide (iN q.i < iN (Uu bA q.n.bs).length) = true)) (h2 : (0 <= iN q.i)) (h3 : ((Uu bA q.n.bs)[(iN q.i).toNat]? = some (AV.agg [AV.str q.b.nm, iv q.b.x, iv q.b.y]))) (h4 : (∀ (x : MapEntry), x ∈ q.l -> A2 (TypeInfo.mk TypeDesc.string "string" 1 16 true 8 8 (some (Value.string (ByteArray.mk #[]))) true #[]).desc x.key = true /\ BT (MK.i i64) x.val)) (h5 : (CT UB 129 [] [AV.str q.b.nm] [] (AV.bool (nmB q.b.nm)))) (h6 : ((!nmB q.b.nm) = false)) (h7 : (CT UB 127 [] [iv q.b.x, iv (-9999), iv 9999] [] (AV.bool (Av q.b.x (-9999) 9999)))) (h8 : ((!Av q.b.x (-9999) 9999) = true)) : GoO UB (hU [101, 126, 139] (Bx q) (AL q)) 0 (zC (zB Try.f93) 0) (zK (zB Try.f93) 0) (Ek q) (Fin UB Try.f93 0 [] (AV.bool false)) :=
 zF (σ:=[]) (fz:=[]) (by kernel_rfl) (aj (al (aj (al t3) (aj h1 (aj (u2 (aj (k2 (aj h2 h3)) (u2 (ak (u2 (al (k2 (show Nat.le (nat_lit 1) (nat_lit 1) from nL rfl)))))))) (aj (u2 (u2 (u2 (aj (k2 h4) (u2 (al (k3 h4))))))) (aj (u2 (u2 (aj (k2 (al h5)) (u2 (u2 (ag h6 (ag h6 (aj (aj h6 (ak (k3 (al h7)))) (ag h6 (ag h6 (u2 (aj h8 (aj h8 (aj h8 (aj h8 (ag h8 (u2 (ak (k5 (k5 (al t3))))))))))))))))))))) (ak s2))))))) t2)
theorem mvb_2 (q : AE) (h1 : (decide (iN q.i < iN (Uu bA q.n.bs).length) = true)) (h2 : (0 <= iN q.i)) (h3 : ((Uu bA q.n.bs)[(iN q.i).toNat]? = some (AV.agg [AV.str q.b.nm, iv q.b.x, iv q.b.y]))) (h4 : (∀ (x : MapEntry), x ∈ q.l -> A2 (TypeInfo.mk TypeDesc.string "string" 1 16 true 8 8 (some (Value.string (ByteArray.mk #[]))) true #[]).desc x.key = true /\ BT (MK.i i64) x.val)) (h5 : (CT UB 129 [] [AV.str q.b.nm] [] (AV.bool (nmB q.b.nm)))) (h6 : ((!nmB q.b.nm) = false)) (h7 : (CT UB 127 [] [iv q.b.x, iv (-9999), iv 9999] [] (AV.bool (Av q.b.x (-9999) 9999)))) (h8 : ((!Av q.b.x (-9999) 9999) = false)) (h9 : (CT UB 127 [] [iv q.b.y, iv (-9999), iv 9999] [] (AV.bool (Av q.b.y (-9999) 9999)))) (h10 : ((!Av q.b.y (-9999) 9999) = true)) : GoO UB (hU [101, 126, 138, 151] (Bx q) (AL q)) 0 (zC (zB Try.f93) 0) (zK (zB Try.f93) 0) (Ek q) (Fin UB Try.f93 0 [] (AV.bool false)) :=
 zF (σ:=[]) (fz:=[]) (by kernel_rfl) (aj (al (aj (al t3) (aj h1 (aj (u2 (aj (k2 (aj h2 h3)) (u2 (ak (u2 (al (k2 (show Nat.le (nat_lit 1) (nat_lit 1) from nL rfl)))))))) (aj (u2 (u2 (u2 (aj (k2 h4) (u2 (al (k3 h4))))))) (aj (u2 (u2 (aj (k2 (al h5)) (u2 (u2 (ag h6 (ag h6 (aj (aj h6 (ak (k3 (al h7)))) (ag h6 (ag h6 (u2 (ag h8 (ag h8 (aj (aj h8 (ak (k3 (al h9)))) (ag h8 (ag h8 (u2 (aj h10 (aj h10 (aj h10 (aj h10 (aj h10 (aj h10 (aj h10 (aj h10 (aj h10 (aj h10 (aj h10 (al (aj h10 t2)))))))))))))))))))))))))))))) (ak s2))))))) t2)
theorem mvb_3 (q : AE) (h1 : (decide (iN q.i < iN (Uu bA q.n.bs).length) = true)) (h2 : (0 <= iN q.i)) (h3 : ((Uu bA q.n.bs)[(iN q.i).toNat]? = some (AV.agg [AV.str q.b.nm, iv q.b.x, iv q.b.y]))) (h4 : (∀ (x : MapEntry), x ∈ q.l -> A2 (TypeInfo.mk TypeDesc.string "string" 1 16 true 8 8 (some (Value.string (ByteArray.mk #[]))) true #[]).desc x.key = true /\ BT (MK.i i64) x.val)) (h5 : (CT UB 129 [] [AV.str q.b.nm] [] (AV.bool (nmB q.b.nm)))) (h6 : ((!nmB q.b.nm) = false)) (h7 : (CT UB 127 [] [iv q.b.x, iv (-9999), iv 9999] [] (AV.bool (Av q.b.x (-9999) 9999)))) (h8 : ((!Av q.b.x (-9999) 9999) = false)) (h9 : (CT UB 127 [] [iv q.b.y, iv (-9999), iv 9999] [] (AV.bool (Av q.b.y (-9999) 9999)))) (h10 : ((!Av q.b.y (-9999) 9999) = false)) (h11 : ((gL q.n.nx)[(iN q.i).toNat]? = some (UA (Uu iv q.r)))) (h12 : (CT UB 130 [] [UA (Uu iv q.r), iv (iN q.i), iv (iN (Uu bA q.n.bs).length)] [] (AV.bool (nxB q.r (iN q.i) (iN (Uu bA q.n.bs).length))))) (h13 : ((!nxB q.r (iN q.i) (iN (Uu bA q.n.bs).length)) = true)) : GoO UB (hU [101, 126, 138, 150, 175] (Bx q) (AL q)) 0 (zC (zB Try.f93) 0) (zK (zB Try.f93) 0) (Ek q) (Fin UB Try.f93 0 [] (AV.bool false)) :=
 zF (σ:=[]) (fz:=[]) (by kernel_rfl) (aj (al (aj (al t3) (aj h1 (aj (u2 (aj (k2 (aj h2 h3)) (u2 (ak (u2 (al (k2 (show Nat.le (nat_lit 1) (nat_lit 1) from nL rfl)))))))) (aj (u2 (u2 (u2 (aj (k2 h4) (u2 (al (k3 h4))))))) (aj (u2 (u2 (aj (k2 (al h5)) (u2 (u2 (ag h6 (ag h6 (aj (aj h6 (ak (k3 (al h7)))) (ag h6 (ag h6 (u2 (ag h8 (ag h8 (aj (aj h8 (ak (k3 (al h9)))) (ag h8 (ag h8 (u2 (ag h10 (ag h10 (ag h10 (aj (aj h10 (k2 (aj h2 h11))) (ag h10 (ag h10 (ag h10 (ag h10 (ag h10 (aj (aj h10 (ak (k5 (al h12)))) (ag h10 (al (aj h10 t2)))))))))))))))))))))))))))))) (aj h13 s2))))))) t2)
theorem mvb_4 (q : AE) (h1 : (decide (iN q.i < iN (Uu bA q.n.bs).length) = true)) (h2 : (0 <= iN q.i)) (h3 : ((Uu bA q.n.bs)[(iN q.i).toNat]? = some (AV.agg [AV.str q.b.nm, iv q.b.x, iv q.b.y]))) (h4 : (∀ (x : MapEntry), x ∈ q.l -> A2 (TypeInfo.mk TypeDesc.string "string" 1 16 true 8 8 (some (Value.string (ByteArray.mk #[]))) true #[]).desc x.key = true /\ BT (MK.i i64) x.val)) (h5 : (CT UB 129 [] [AV.str q.b.nm] [] (AV.bool (nmB q.b.nm)))) (h6 : ((!nmB q.b.nm) = false)) (h7 : (CT UB 127 [] [iv q.b.x, iv (-9999), iv 9999] [] (AV.bool (Av q.b.x (-9999) 9999)))) (h8 : ((!Av q.b.x (-9999) 9999) = false)) (h9 : (CT UB 127 [] [iv q.b.y, iv (-9999), iv 9999] [] (AV.bool (Av q.b.y (-9999) 9999)))) (h10 : ((!Av q.b.y (-9999) 9999) = false)) (h11 : ((gL q.n.nx)[(iN q.i).toNat]? = some (UA (Uu iv q.r)))) (h12 : (CT UB 130 [] [UA (Uu iv q.r), iv (iN q.i), iv (iN (Uu bA q.n.bs).length)] [] (AV.bool (nxB q.r (iN q.i) (iN (Uu bA q.n.bs).length))))) (h13 : ((!nxB q.r (iN q.i) (iN (Uu bA q.n.bs).length)) = false)) {post : Exit -> St -> Prop} {R : St -> Prop} (hR : ∀ st, Ren 0 st (St.mk 185 [(1, AV.ptr 0 0 0), (3, AV.map 1), (47, UA (Uu bA q.n.bs)), (48, iv (iN (Uu bA q.n.bs).length)), (49, iv (i64.wrap (iN q.i + 1)))] [some (Blk.mk [Ai q.n] 8 true true none), some (Blk.mk [] 0 true true (some (BS TypeDesc.string (Value.string q.b.nm) (Value.int i64 (i64.wrap (Ej TypeDesc.string (Value.string q.b.nm) q.l + 1))) q.l q.c, BN TypeDesc.string (Value.string q.b.nm) q.l q.c)))]) -> R st) : GoP UB (hU [101, 126, 138, 150, 174] (Bx q) (AL q)) 0 (zC (zB Try.f93) 0) (Ek q) (andThen R post) :=
 zN (σ:=[0,1]) (fz:=[]) (vars:=[1,3,47,48,49]) (by kernel_rfl) (aj (aj (al t3) (aj h1 (aj (u2 (aj (k2 (aj h2 h3)) (u2 (ak (u2 (al (k2 (show Nat.le (nat_lit 1) (nat_lit 1) from nL rfl)))))))) (aj (u2 (u2 (u2 (aj (k2 h4) (u2 (al (k3 h4))))))) (aj (u2 (u2 (aj (k2 (al h5)) (u2 (u2 (ag h6 (ag h6 (aj (aj h6 (ak (k3 (al h7)))) (ag h6 (ag h6 (u2 (ag h8 (ag h8 (aj (aj h8 (ak (k3 (al h9)))) (ag h8 (ag h8 (u2 (ag h10 (ag h10 (ag h10 (aj (aj h10 (k2 (aj h2 h11))) (ag h10 (ag h10 (ag h10 (ag h10 (ag h10 (aj (aj h10 (ak (k5 (al h12)))) (ag h10 (al (aj h10 t2)))))))))))))))))))))))))))))) (aj h13 (al (u2 s2)))))))) t8) hR
theorem mvsx_0(q:AE)(h1:(decide (iN q.i<iN (Uu sA q.n.ss).length)=false))(h2:(decide (0<iN q.l2.length)=true)){post:Exit->St->Prop}(ht:T UB 0 (.loop (zC (zB Try.f93) 2)) (St.mk 185 [(7,AV.map 0),(10,AV.bool (iN q.l.length==i64.wrap (iN (Uu bA q.n.bs).length+iN (Uu sA q.n.ss).length))),(169,UA (Uu iv q.n.rs)),(170,iv (iN (Uu iv q.n.rs).length)),(171,iv 0)] [some (Blk.mk [] 0 true true (some (q.l2,q.c2)))]) (TK UB 0 post (zK (zB Try.f93) 2))):GoO UB (hU [194,313] (Bx q) (AL q)) 0 (zC (zB Try.f93) 1) (zK (zB Try.f93) 1) (CY q) post:=zR (σ:=[2]) (fz:=[]) (vars:=[7,10,169,170,171]) (by kernel_rfl) (aj (aj (aj (al t3) (al h1)) (aj (u2 (u2 (u2 (u2 (ag h2 (ag h2 (ag h2 (ag h2 (ag h2 (ag h2 (ag h2 (ag h2 (aj (aj h2 t3) (aj (aj h2 t3) (ag h2 s2))))))))))))))) (al (u2 (u2 (u2 t2)))))) t7) ht
theorem mvsx_1(q:AE)(h1:(decide (iN q.i<iN (Uu sA q.n.ss).length)=false))(h2:(decide (0<iN q.l2.length)=false)){post:Exit->St->Prop}(ht:T UB 0 (.loop (zC (zB Try.f93) 2)) (St.mk 185 [(7,AV.map 0),(10,AV.bool false),(169,UA (Uu iv q.n.rs)),(170,iv (iN (Uu iv q.n.rs).length)),(171,iv 0)] [some (Blk.mk [] 0 true true (some (q.l2,q.c2)))]) (TK UB 0 post (zK (zB Try.f93) 2))):GoO UB (hU [194,312] (Bx q) (AL q)) 0 (zC (zB Try.f93) 1) (zK (zB Try.f93) 1) (CY q) post:=zR (σ:=[2]) (fz:=[]) (vars:=[7,10,169,170,171]) (by kernel_rfl) (aj (aj (aj (al t3) (al h1)) (aj (u2 (u2 (u2 (u2 (aj h2 (aj h2 (aj h2 (aj h2 (aj h2 (aj h2 (aj h2 (aj h2 (aj h2 (aj h2 (ag h2 s2))))))))))))))) (al (u2 (u2 (u2 t2)))))) t7) ht
theorem mvs_0 (q : AE) (h1 : (decide (iN q.i < iN (Uu sA q.n.ss).length) = true)) (h2 : (0 <= iN q.i)) (h3 : ((Uu sA q.n.ss)[(iN q.i).toNat]? = some (sA q.s))) (h4 : (∀ (x : MapEntry), x ∈ q.l -> A2 (TypeInfo.mk TypeDesc.string "string" 1 16 true 8 8 (some (Value.string (ByteArray.mk #[]))) true #[]).desc x.key = true /\ BT (MK.i i64) x.val)) (h5 : (CT UB 129 [] [AV.str q.s.nm] [] (AV.bool (nmB q.s.nm)))) (h6 : ((!nmB q.s.nm) = true)) : GoO UB (hU [195, 219] (Bx q) (AL q)) 0 (zC (zB Try.f93) 1) (zK (zB Try.f93) 1) (CY q) (Fin UB Try.f93 0 [] (AV.bool false)) :=
 zF (σ:=[]) (fz:=[]) (by kernel_rfl) (aj (al (aj (al t3) (aj h1 (aj (aj (k2 (aj h2 h3)) (u2 (ak (al (k2 (show Nat.le (nat_lit 1) (nat_lit 1) from nL rfl)))))) (aj (u2 (u2 (u2 (aj (k2 h4) (u2 (al (k3 h4))))))) (aj (u2 (u2 (aj (k2 (al h5)) (u2 (u2 (aj h6 (aj h6 (aj h6 (aj h6 (aj h6 (aj h6 (aj h6 (aj h6 (ag h6 (u2 (k3 (k5 (aj t3 (u2 (ak (k3 (aj t3 (u2 (ak (k3 (al t3)))))))))))))))))))))))))) (ak s2))))))) t2)
theorem mvs_1 (q : AE) (h1 : (decide (iN q.i < iN (Uu sA q.n.ss).length) = true)) (h2 : (0 <= iN q.i)) (h3 : ((Uu sA q.n.ss)[(iN q.i).toNat]? = some (sA q.s))) (h4 : (∀ (x : MapEntry), x ∈ q.l -> A2 (TypeInfo.mk TypeDesc.string "string" 1 16 true 8 8 (some (Value.string (ByteArray.mk #[]))) true #[]).desc x.key = true /\ BT (MK.i i64) x.val)) (h5 : (CT UB 129 [] [AV.str q.s.nm] [] (AV.bool (nmB q.s.nm)))) (h6 : ((!nmB q.s.nm) = false)) (h7 : (CT UB 127 [] [iv q.s.i, iv 0, iv (i64.wrap (iN (Uu bA q.n.bs).length - 1))] [] (AV.bool (Av q.s.i 0 (i64.wrap (iN (Uu bA q.n.bs).length - 1)))))) (h8 : ((!Av q.s.i 0 (i64.wrap (iN (Uu bA q.n.bs).length - 1))) = true)) : GoO UB (hU [195, 218, 239] (Bx q) (AL q)) 0 (zC (zB Try.f93) 1) (zK (zB Try.f93) 1) (CY q) (Fin UB Try.f93 0 [] (AV.bool false)) :=
 zF (σ:=[]) (fz:=[]) (by kernel_rfl) (aj (al (aj (al t3) (aj h1 (aj (aj (k2 (aj h2 h3)) (u2 (ak (al (k2 (show Nat.le (nat_lit 1) (nat_lit 1) from nL rfl)))))) (aj (u2 (u2 (u2 (aj (k2 h4) (u2 (al (k3 h4))))))) (aj (u2 (u2 (aj (k2 (al h5)) (u2 (u2 (ag h6 (ag h6 (ag h6 (ag h6 (ag h6 (ag h6 (aj (aj h6 (k5 (al h7))) (ag h6 (ag h6 (u2 (aj h8 (aj h8 (aj h8 (aj h8 (aj h8 (aj h8 (aj h8 (aj h8 (ag h8 (u2 (ak (k3 (aj t3 (u2 (ak (k3 (al t3)))))))))))))))))))))))))))))))) (ak s2))))))) t2)
theorem mvs_2 (q : AE) (h1 : (decide (iN q.i < iN (Uu sA q.n.ss).length) = true)) (h2 : (0 <= iN q.i)) (h3 : ((Uu sA q.n.ss)[(iN q.i).toNat]? = some (sA q.s))) (h4 : (∀ (x : MapEntry), x ∈ q.l -> A2 (TypeInfo.mk TypeDesc.string "string" 1 16 true 8 8 (some (Value.string (ByteArray.mk #[]))) true #[]).desc x.key = true /\ BT (MK.i i64) x.val)) (h5 : (CT UB 129 [] [AV.str q.s.nm] [] (AV.bool (nmB q.s.nm)))) (h6 : ((!nmB q.s.nm) = false)) (h7 : (CT UB 127 [] [iv q.s.i, iv 0, iv (i64.wrap (iN (Uu bA q.n.bs).length - 1))] [] (AV.bool (Av q.s.i 0 (i64.wrap (iN (Uu bA q.n.bs).length - 1)))))) (h8 : ((!Av q.s.i 0 (i64.wrap (iN (Uu bA q.n.bs).length - 1))) = false)) (h9 : (CT UB 127 [] [iv q.s.o, iv 0, iv (i64.wrap (iN (Uu bA q.n.bs).length - 1))] [] (AV.bool (Av q.s.o 0 (i64.wrap (iN (Uu bA q.n.bs).length - 1)))))) (h10 : ((!Av q.s.o 0 (i64.wrap (iN (Uu bA q.n.bs).length - 1))) = true)) : GoO UB (hU [195, 218, 238, 259] (Bx q) (AL q)) 0 (zC (zB Try.f93) 1) (zK (zB Try.f93) 1) (CY q) (Fin UB Try.f93 0 [] (AV.bool false)) :=
 zF (σ:=[]) (fz:=[]) (by kernel_rfl) (aj (al (aj (al t3) (aj h1 (aj (aj (k2 (aj h2 h3)) (u2 (ak (al (k2 (show Nat.le (nat_lit 1) (nat_lit 1) from nL rfl)))))) (aj (u2 (u2 (u2 (aj (k2 h4) (u2 (al (k3 h4))))))) (aj (u2 (u2 (aj (k2 (al h5)) (u2 (u2 (ag h6 (ag h6 (ag h6 (ag h6 (ag h6 (ag h6 (aj (aj h6 (k5 (al h7))) (ag h6 (ag h6 (u2 (ag h8 (ag h8 (ag h8 (ag h8 (ag h8 (ag h8 (aj (aj h8 (k5 (al h9))) (ag h8 (ag h8 (u2 (aj h10 (aj h10 (aj h10 (aj h10 (ag h10 (u2 (ak (k3 (al t3)))))))))))))))))))))))))))))))))) (ak s2))))))) t2)
theorem mvs_3 (q : AE) (h1 : (decide (iN q.i < iN (Uu sA q.n.ss).length) = true)) (h2 : (0 <= iN q.i)) (h3 : ((Uu sA q.n.ss)[(iN q.i).toNat]? = some (sA q.s))) (h4 : (∀ (x : MapEntry), x ∈ q.l -> A2 (TypeInfo.mk TypeDesc.string "string" 1 16 true 8 8 (some (Value.string (ByteArray.mk #[]))) true #[]).desc x.key = true /\ BT (MK.i i64) x.val)) (h5 : (CT UB 129 [] [AV.str q.s.nm] [] (AV.bool (nmB q.s.nm)))) (h6 : ((!nmB q.s.nm) = false)) (h7 : (CT UB 127 [] [iv q.s.i, iv 0, iv (i64.wrap (iN (Uu bA q.n.bs).length - 1))] [] (AV.bool (Av q.s.i 0 (i64.wrap (iN (Uu bA q.n.bs).length - 1)))))) (h8 : ((!Av q.s.i 0 (i64.wrap (iN (Uu bA q.n.bs).length - 1))) = false)) (h9 : (CT UB 127 [] [iv q.s.o, iv 0, iv (i64.wrap (iN (Uu bA q.n.bs).length - 1))] [] (AV.bool (Av q.s.o 0 (i64.wrap (iN (Uu bA q.n.bs).length - 1)))))) (h10 : ((!Av q.s.o 0 (i64.wrap (iN (Uu bA q.n.bs).length - 1))) = false)) (h11 : (CT UB 127 [] [iv q.s.k, iv 1, iv 4] [] (AV.bool (Av q.s.k 1 4)))) (h12 : ((!Av q.s.k 1 4) = true)) : GoO UB (hU [195, 218, 238, 258, 271] (Bx q) (AL q)) 0 (zC (zB Try.f93) 1) (zK (zB Try.f93) 1) (CY q) (Fin UB Try.f93 0 [] (AV.bool false)) :=
 zF (σ:=[]) (fz:=[]) (by kernel_rfl) (aj (al (aj (al t3) (aj h1 (aj (aj (k2 (aj h2 h3)) (u2 (ak (al (k2 (show Nat.le (nat_lit 1) (nat_lit 1) from nL rfl)))))) (aj (u2 (u2 (u2 (aj (k2 h4) (u2 (al (k3 h4))))))) (aj (u2 (u2 (aj (k2 (al h5)) (u2 (u2 (ag h6 (ag h6 (ag h6 (ag h6 (ag h6 (ag h6 (aj (aj h6 (k5 (al h7))) (ag h6 (ag h6 (u2 (ag h8 (ag h8 (ag h8 (ag h8 (ag h8 (ag h8 (aj (aj h8 (k5 (al h9))) (ag h8 (ag h8 (u2 (ag h10 (ag h10 (aj (aj h10 (ak (k3 (al h11)))) (ag h10 (ag h10 (u2 (aj h12 (aj h12 (aj h12 (aj h12 (al (aj h12 t2))))))))))))))))))))))))))))))))))))) (ak s2))))))) t2)
theorem mvs_4 (q : AE) (h1 : (decide (iN q.i < iN (Uu sA q.n.ss).length) = true)) (h2 : (0 <= iN q.i)) (h3 : ((Uu sA q.n.ss)[(iN q.i).toNat]? = some (sA q.s))) (h4 : (∀ (x : MapEntry), x ∈ q.l -> A2 (TypeInfo.mk TypeDesc.string "string" 1 16 true 8 8 (some (Value.string (ByteArray.mk #[]))) true #[]).desc x.key = true /\ BT (MK.i i64) x.val)) (h5 : (CT UB 129 [] [AV.str q.s.nm] [] (AV.bool (nmB q.s.nm)))) (h6 : ((!nmB q.s.nm) = false)) (h7 : (CT UB 127 [] [iv q.s.i, iv 0, iv (i64.wrap (iN (Uu bA q.n.bs).length - 1))] [] (AV.bool (Av q.s.i 0 (i64.wrap (iN (Uu bA q.n.bs).length - 1)))))) (h8 : ((!Av q.s.i 0 (i64.wrap (iN (Uu bA q.n.bs).length - 1))) = false)) (h9 : (CT UB 127 [] [iv q.s.o, iv 0, iv (i64.wrap (iN (Uu bA q.n.bs).length - 1))] [] (AV.bool (Av q.s.o 0 (i64.wrap (iN (Uu bA q.n.bs).length - 1)))))) (h10 : ((!Av q.s.o 0 (i64.wrap (iN (Uu bA q.n.bs).length - 1))) = false)) (h11 : (CT UB 127 [] [iv q.s.k, iv 1, iv 4] [] (AV.bool (Av q.s.k 1 4)))) (h12 : ((!Av q.s.k 1 4) = false)) (h13 : ((q.s.b != q.base) = true)) : GoO UB (hU [195, 218, 238, 258, 270, 281] (Bx q) (AL q)) 0 (zC (zB Try.f93) 1) (zK (zB Try.f93) 1) (CY q) (Fin UB Try.f93 0 [] (AV.bool false)) :=
 zF (σ:=[]) (fz:=[]) (by kernel_rfl) (aj (al (aj (al t3) (aj h1 (aj (aj (k2 (aj h2 h3)) (u2 (ak (al (k2 (show Nat.le (nat_lit 1) (nat_lit 1) from nL rfl)))))) (aj (u2 (u2 (u2 (aj (k2 h4) (u2 (al (k3 h4))))))) (aj (u2 (u2 (aj (k2 (al h5)) (u2 (u2 (ag h6 (ag h6 (ag h6 (ag h6 (ag h6 (ag h6 (aj (aj h6 (k5 (al h7))) (ag h6 (ag h6 (u2 (ag h8 (ag h8 (ag h8 (ag h8 (ag h8 (ag h8 (aj (aj h8 (k5 (al h9))) (ag h8 (ag h8 (u2 (ag h10 (ag h10 (aj (aj h10 (ak (k3 (al h11)))) (ag h10 (ag h10 (u2 (ag h12 (ag h12 (ag h12 (aj (aj h12 t3) (al (aj h12 t2))))))))))))))))))))))))))))))))))))) (aj h13 s2))))))) t2)
theorem mvs_5 (q : AE) (h1 : (decide (iN q.i < iN (Uu sA q.n.ss).length) = true)) (h2 : (0 <= iN q.i)) (h3 : ((Uu sA q.n.ss)[(iN q.i).toNat]? = some (sA q.s))) (h4 : (∀ (x : MapEntry), x ∈ q.l -> A2 (TypeInfo.mk TypeDesc.string "string" 1 16 true 8 8 (some (Value.string (ByteArray.mk #[]))) true #[]).desc x.key = true /\ BT (MK.i i64) x.val)) (h5 : (CT UB 129 [] [AV.str q.s.nm] [] (AV.bool (nmB q.s.nm)))) (h6 : ((!nmB q.s.nm) = false)) (h7 : (CT UB 127 [] [iv q.s.i, iv 0, iv (i64.wrap (iN (Uu bA q.n.bs).length - 1))] [] (AV.bool (Av q.s.i 0 (i64.wrap (iN (Uu bA q.n.bs).length - 1)))))) (h8 : ((!Av q.s.i 0 (i64.wrap (iN (Uu bA q.n.bs).length - 1))) = false)) (h9 : (CT UB 127 [] [iv q.s.o, iv 0, iv (i64.wrap (iN (Uu bA q.n.bs).length - 1))] [] (AV.bool (Av q.s.o 0 (i64.wrap (iN (Uu bA q.n.bs).length - 1)))))) (h10 : ((!Av q.s.o 0 (i64.wrap (iN (Uu bA q.n.bs).length - 1))) = false)) (h11 : (CT UB 127 [] [iv q.s.k, iv 1, iv 4] [] (AV.bool (Av q.s.k 1 4)))) (h12 : ((!Av q.s.k 1 4) = false)) (h13 : ((q.s.b != q.base) = false)) {post : Exit -> St -> Prop} (ht : T UB 0 (.loop (zC (zC (zB Try.f93) 1) 0)) (St.mk 185 [(1, AV.ptr 0 0 0), (3, AV.map 1), (6, iv q.base), (7, AV.map 2), (9, AV.ptr 3 0 0), (94, UA (Uu sA q.n.ss)), (95, iv (iN (Uu sA q.n.ss).length)), (96, iv (iN q.i)), (142, iv q.s.k), (143, iv 0)] [some (Blk.mk [Ai q.n] 8 true true none), some (Blk.mk [] 0 true true (some (BS TypeDesc.string (Value.string q.s.nm) (Value.int i64 (i64.wrap (Ej TypeDesc.string (Value.string q.s.nm) q.l + 1))) q.l q.c, BN TypeDesc.string (Value.string q.s.nm) q.l q.c))), some (Blk.mk [] 0 true true (some (q.l2, q.c2))), some (Blk.mk [sA q.s] 6 true true none)]) (TK UB 0 post (zK (zC (zB Try.f93) 1) 0))) : GoP UB (hU [195, 218, 238, 258, 270, 280] (Bx q) (AL q)) 0 (zC (zB Try.f93) 1) (CY q) post :=
 zR (σ:=[0,1,2,3]) (fz:=[]) (vars:=[1,3,6,7,9,94,95,96,142,143]) (by kernel_rfl) (aj (aj (al t3) (aj h1 (aj (aj (k2 (aj h2 h3)) (u2 (ak (al (k2 (show Nat.le (nat_lit 1) (nat_lit 1) from nL rfl)))))) (aj (u2 (u2 (u2 (aj (k2 h4) (u2 (al (k3 h4))))))) (aj (u2 (u2 (aj (k2 (al h5)) (u2 (u2 (ag h6 (ag h6 (ag h6 (ag h6 (ag h6 (ag h6 (aj (aj h6 (k5 (al h7))) (ag h6 (ag h6 (u2 (ag h8 (ag h8 (ag h8 (ag h8 (ag h8 (ag h8 (aj (aj h8 (k5 (al h9))) (ag h8 (ag h8 (u2 (ag h10 (ag h10 (aj (aj h10 (ak (k3 (al h11)))) (ag h10 (ag h10 (u2 (ag h12 (ag h12 (ag h12 (aj (aj h12 t3) (al (aj h12 t2))))))))))))))))))))))))))))))))))))) (aj h13 (al (u2 (u2 t2))))))))) (ak (k5 t9))) ht
theorem mvtx_0(q:AE)(h1:(decide (iN q.k<q.s.k)=false)){post:Exit->St->Prop}{R:St->Prop}(hR:∀st,Ren 0 st (St.mk 185 [(1,AV.ptr 0 0 0),(3,AV.map 1),(6,iv q.base),(7,AV.map 2),(94,UA (Uu sA q.n.ss)),(95,iv (iN (Uu sA q.n.ss).length)),(96,iv (i64.wrap (iN q.i+1)))] [some (Blk.mk [Ai q.n] 8 true true none),some (Blk.mk [] 0 true true (some (q.l,q.c))),some (Blk.mk [] 0 true true (some (q.l2,q.c2)))])->R st):GoO UB (hU [288] (Bx q) (AL q)) 0 (zC (zC (zB Try.f93) 1) 0) (zK (zC (zB Try.f93) 1) 0) (En q) (andThen R post):=zN (σ:=[0,1,2]) (fz:=[]) (vars:=[1,3,6,7,94,95,96]) (by kernel_rfl) (aj (aj (aj (al t3) (al h1)) (al (u2 s2))) (k2 t9)) hR
theorem mvt_0 (q : AE) (h1 : (decide (iN q.k < q.s.k) = true)) (h2 : (q.s.dep = true)) (h3 : (∀ (x : MapEntry), x ∈ q.l2 -> A2 (TypeInfo.mk (TypeDesc.int i64) "int" 1 8 false 8 8 (some (Value.int i64 0)) true #[]).desc x.key = true /\ BT MK.b x.val)) {post : Exit -> St -> Prop} {R : St -> Prop} (hR : ∀ st, Ren 0 st (St.mk 185 [(1, AV.ptr 0 0 0), (3, AV.map 1), (6, iv (i64.wrap (q.base + 1))), (7, AV.map 2), (9, AV.ptr 3 0 0), (94, UA (Uu sA q.n.ss)), (95, iv (iN (Uu sA q.n.ss).length)), (96, iv (iN q.i)), (142, iv q.s.k), (143, iv (i64.wrap (iN q.k + 1)))] [some (Blk.mk [Ai q.n] 8 true true none), some (Blk.mk [] 0 true true (some (q.l, q.c))), some (Blk.mk [] 0 true true (some (BS (TypeDesc.int i64) (Value.int i64 q.base) (Value.bool true) q.l2 q.c2, BN (TypeDesc.int i64) (Value.int i64 q.base) q.l2 q.c2))), some (Blk.mk [sA q.s] 6 true true none)]) -> R st) : GoP UB (hU [289, 293] (Bx q) (AL q)) 0 (zC (zC (zB Try.f93) 1) 0) (En q) (andThen R post) :=
 zN (σ:=[0,1,2,3]) (fz:=[]) (vars:=[1,3,6,7,9,94,95,96,142,143]) (by kernel_rfl) (aj (aj (al t3) (aj h1 (aj (u2 s2) (aj h2 (aj (u2 (u2 (al (k2 h3)))) (aj (u2 (u2 s2)) (al (u2 s2)))))))) (ak (k5 t9))) hR
theorem mvt_1(q:AE)(h1:(decide (iN q.k<q.s.k)=true))(h2:(q.s.dep=false)){post:Exit->St->Prop}{R:St->Prop}(hR:∀st,Ren 0 st (St.mk 185 [(1,AV.ptr 0 0 0),(3,AV.map 1),(6,iv (i64.wrap (q.base+1))),(7,AV.map 2),(9,AV.ptr 3 0 0),(94,UA (Uu sA q.n.ss)),(95,iv (iN (Uu sA q.n.ss).length)),(96,iv (iN q.i)),(142,iv q.s.k),(143,iv (i64.wrap (iN q.k+1)))] [some (Blk.mk [Ai q.n] 8 true true none),some (Blk.mk [] 0 true true (some (q.l,q.c))),some (Blk.mk [] 0 true true (some (q.l2,q.c2))),some (Blk.mk [sA q.s] 6 true true none)])->R st):GoP UB (hU [289,292] (Bx q) (AL q)) 0 (zC (zC (zB Try.f93) 1) 0) (En q) (andThen R post):=zN (σ:=[0,1,2,3]) (fz:=[]) (vars:=[1,3,6,7,9,94,95,96,142,143]) (by kernel_rfl) (aj (aj (al t3) (aj h1 (aj (u2 s2) (aj h2 (aj (u2 (u2 s2)) (al (u2 s2))))))) (ak (k5 t9))) hR
theorem mvr_0 (q : AE) (h1 : (decide (iN q.i < iN (Uu iv q.n.rs).length) = true)) (h2 : (0 <= iN q.i)) (h3 : ((Uu iv q.n.rs)[(iN q.i).toNat]? = some (iv q.x))) (h4 : (q.ok = true)) (h5 : (∀ (x : MapEntry), x ∈ q.l2 -> A2 (TypeInfo.mk (TypeDesc.int i64) "int" 1 8 false 8 8 (some (Value.int i64 0)) true #[]).desc x.key = true /\ BT MK.b x.val)) {post : Exit -> St -> Prop} {R : St -> Prop} (hR : ∀ st, Ren 0 st (St.mk 185 [(7, AV.map 0), (10, AV.bool (F7 (TypeDesc.int i64) (Value.int i64 q.x) q.l2)), (169, UA (Uu iv q.n.rs)), (170, iv (iN (Uu iv q.n.rs).length)), (171, iv (i64.wrap (iN q.i + 1)))] [some (Blk.mk [] 0 true true (some (CM (TypeDesc.int i64) (Value.int i64 q.x) q.l2, q.c2)))]) -> R st) : GoP UB (hU [345, 353] (Bx q) (AL q)) 0 (zC (zB Try.f93) 2) (F2 q) (andThen R post) :=
 zN (σ:=[0]) (fz:=[]) (vars:=[7,10,169,170,171]) (by kernel_rfl) (aj (aj (al t3) (aj h1 (aj (aj (k2 (aj h2 h3)) (u2 s2)) (aj (u2 (u2 (ag h4 (ag h4 (aj (aj h4 (k2 h5)) (ag h4 s2)))))) (aj (u2 (u2 (al (k2 h5)))) (al (u2 s2))))))) t7) hR
theorem mvr_1 (q : AE) (h1 : (decide (iN q.i < iN (Uu iv q.n.rs).length) = true)) (h2 : (0 <= iN q.i)) (h3 : ((Uu iv q.n.rs)[(iN q.i).toNat]? = some (iv q.x))) (h4 : (q.ok = false)) (h5 : (∀ (x : MapEntry), x ∈ q.l2 -> A2 (TypeInfo.mk (TypeDesc.int i64) "int" 1 8 false 8 8 (some (Value.int i64 0)) true #[]).desc x.key = true /\ BT MK.b x.val)) {post : Exit -> St -> Prop} {R : St -> Prop} (hR : ∀ st, Ren 0 st (St.mk 185 [(7, AV.map 0), (10, AV.bool false), (169, UA (Uu iv q.n.rs)), (170, iv (iN (Uu iv q.n.rs).length)), (171, iv (i64.wrap (iN q.i + 1)))] [some (Blk.mk [] 0 true true (some (CM (TypeDesc.int i64) (Value.int i64 q.x) q.l2, q.c2)))]) -> R st) : GoP UB (hU [345, 352] (Bx q) (AL q)) 0 (zC (zB Try.f93) 2) (F2 q) (andThen R post) :=
 zN (σ:=[0]) (fz:=[]) (vars:=[7,10,169,170,171]) (by kernel_rfl) (aj (aj (al t3) (aj h1 (aj (aj (k2 (aj h2 h3)) (u2 s2)) (aj (u2 (u2 (aj h4 (aj h4 (aj h4 (ag h4 s2)))))) (aj (u2 (u2 (al (k2 h5)))) (al (u2 s2))))))) t7) hR
theorem mvr_2(q:AE)(h1:(decide (iN q.i<iN (Uu iv q.n.rs).length)=false)):GoO UB (hU [344] (Bx q) (AL q)) 0 (zC (zB Try.f93) 2) (zK (zB Try.f93) 2) (F2 q) (Fin UB Try.f93 0 [] (AV.bool q.ok)):=zF (σ:=[]) (fz:=[]) (by kernel_rfl) (aj (aj (aj (al t3) (al h1)) (al (u2 s2))) t2)
def qM0:AE:=⟨⟨[],[],[],[],0,0,0,0⟩,[],0,[],0,⟨⟨#[]⟩,0,0⟩,⟨⟨#[]⟩,false,0,0,0,0⟩,[],0,0,0,false,0,0,0,false,⟨#[]⟩⟩
def A5(n:Aa):AE:={qM0 with n:=n}
def qS(s:ByteArray)(i:Nat):AE:={qM0 with nb:=s,i:=i}
theorem Ef(x y z:Int):CT UB 127 [] [.int .i64 x,.int .i64 y,.int .i64 z] [] (.bool (Av x y z)):=by unfold Av;exact wit_ct x y z
theorem rname_ct(s:ByteArray):CT UB 140 [] [.str s] [] (.bool (nmB s)):=by
 have hb:Try.f140.body=some (zB Try.f140):=by kernel_rfl
 have hn:[AV.str s].length<=Try.f140.ntmps:=nL rfl;have hle:=Pd (bAt s 0);unfold nmB;cases h1:s.toList==(ByteArray.mk #[]).toList
 case true=>exact CT.pathS mix Try.func140 hb hn (rni_0 (qS s 0) h1) (by simp)
 have h0:=N4 h1;cases h2:decide (12<iN s.size)
 case true=>exact CT.pathS mix Try.func140 hb hn (rni_1 (qS s 0) h1 h2) (by simp)
 cases h3:AN (bAt s 0)
 case false=>exact CT.pathS mix Try.func140 hb hn (rni_2 (qS s 0) h1 h2 (by simpa [iN,qS] using h0) hle (by simp only[qS];exact congrArg not h3)) (by simp)
 refine CT.path mix Try.func140 hb hn (rni_3 (qS s 0) h1 h2 (by simpa [iN,qS] using h0) hle (by simp only[qS];exact congrArg not h3) ?_);simp only[Tt,Bool.true_and];have h12:s.size<=12:=by have:=of_decide_eq_false h2;simp only[iN] at this;omega
 generalize hrr:fnd (fun i=> !(okB (bAt s i))) 0 s.size=res;refine T.loop (fun i:Nat=>C9 (qS s i)) (fun i=>i<=s.size/\fnd (fun i=> !(okB (bAt s i))) i (s.size-i)=res) (fun i=>s.size+1-i) 0 ⟨TJ _,hrr⟩ ?_
 rintro i ⟨hi,hf⟩
 by_cases h:i<s.size
 .rw[CV h] at hf;have dk:decide (iN i<iN s.size)=true:=TD (by simp only[iN];omega);have k0:(0:Int)<=iN i/\iN i<iN s.size:=by simp only[iN];omega
  have k1:(0:Int)<=iN i:=by simp[iN]
  have k2:=k0.2;have hci:=Pd (bAt s i);have wi:i64.wrap (iN i+1)=((i+1:Nat):Int):=zW i (by omega);have next:okB (bAt s i)=true->∀st,Ren 0 st (C9 (qS s (i+1)))->∃j,Ren 0 st (C9 (qS s j))/\(j<=s.size/\fnd (fun i=> !(okB (bAt s i))) j (s.size-j)=res)/\s.size+1-j<s.size+1-i:=by intro hb st hst;simp only[hb,Bool.not_true] at hf;exact⟨i+1,hst,⟨h,hf⟩,by omega⟩
  have stop:okB (bAt s i)=false->res=some i:=by intro hb;simp only[hb,Tt] at hf;exact hf.symm
  cases t1:(!AN (bAt (qS s i).nb (iN (qS s i).i).toNat))
  case false=>exact T.path mix (rnl_7 (qS s i) dk (by assumption) (by assumption) (by assumption) t1 (fun st hst=>by simp only[qS,wi] at hst;refine next ?_ st hst;clear hf hrr next stop hst;simp only[qS,iN,TG] at *;unfold okB;grind))
  case true=>
   cases t2:decide (bAt (qS s i).nb (iN (qS s i).i).toNat<48)
   case false=>
    cases t3:decide (57<bAt (qS s i).nb (iN (qS s i).i).toNat)
    case false=>exact T.path mix (rnl_6 (qS s i) dk (by assumption) (by assumption) (by assumption) t1 t2 t3 (fun st hst=>by simp only[qS,wi] at hst;refine next ?_ st hst;clear hf hrr next stop hst;simp only[qS,iN,TG] at *;unfold okB;grind))
    case true=>
     cases t4:(bAt (qS s i).nb (iN (qS s i).i).toNat != 45)
     case false=>exact T.path mix (rnl_5 (qS s i) dk (by assumption) (by assumption) (by assumption) t1 t2 t3 t4 (fun st hst=>by simp only[qS,wi] at hst;refine next ?_ st hst;clear hf hrr next stop hst;simp only[qS,iN,TG] at *;unfold okB;grind))
     case true=>
      cases t5:(bAt (qS s i).nb (iN (qS s i).i).toNat != 95)
      case false=>exact T.path mix (rnl_4 (qS s i) dk (by assumption) (by assumption) (by assumption) t1 t2 t3 t4 t5 (fun st hst=>by simp only[qS,wi] at hst;refine next ?_ st hst;clear hf hrr next stop hst;simp only[qS,iN,TG] at *;unfold okB;grind))
      case true=>rw[stop (by clear hf hrr next;simp only[qS,iN,TG] at *;unfold okB;grind)];exact T.out mix (rnl_3 (qS s i) dk (by assumption) (by assumption) (by assumption) t1 t2 t3 t4 t5)
   case true=>
    cases t6:(bAt (qS s i).nb (iN (qS s i).i).toNat != 45)
    case false=>exact T.path mix (rnl_2 (qS s i) dk (by assumption) (by assumption) (by assumption) t1 t2 t6 (fun st hst=>by simp only[qS,wi] at hst;refine next ?_ st hst;clear hf hrr next stop hst;simp only[qS,iN,TG] at *;unfold okB;grind))
    case true=>
     cases t7:(bAt (qS s i).nb (iN (qS s i).i).toNat != 95)
     case false=>exact T.path mix (rnl_1 (qS s i) dk (by assumption) (by assumption) (by assumption) t1 t2 t6 t7 (fun st hst=>by simp only[qS,wi] at hst;refine next ?_ st hst;clear hf hrr next stop hst;simp only[qS,iN,TG] at *;unfold okB;grind))
     case true=>rw[stop (by clear hf hrr next;simp only[qS,iN,TG] at *;unfold okB;grind)];exact T.out mix (rnl_0 (qS s i) dk (by assumption) (by assumption) (by assumption) t1 t2 t6 t7)
 .rw[C1 h] at hf;subst hf;exact T.out mix (rnl_8 (qS s i) (TC (by simp only[qS,iN];omega)))
theorem vcfg_ct(n:Aa):CT UB 128 [] [.agg [.int .i64 n.q,.int .i64 n.a,.int .i64 n.d,.int .i64 n.p]] [] (.bool (A9 n)):=by
 have hb:Try.f128.body=some (zB Try.f128):=by kernel_rfl
 have hn:[AV.agg [.int .i64 n.q,.int .i64 n.a,.int .i64 n.d,.int .i64 n.p]].length<=Try.f128.ntmps:=nL rfl;have w1:=Ef n.q 1 8;have w2:=Ef n.a 0 4;have w3:=Ef n.d 0 3;have w4:=Ef n.p 1 16;cases t8:Av (A5 n).n.q 1 8
 case false=>exact CT.pathS mix Try.func128 hb hn (mvc_3 (A5 n) (by first | assumption | (simp[iN])) t8) (by simp only[A5] at *;unfold A9;grind)
 case true=>
  cases t9:Av (A5 n).n.a 0 4
  case false=>exact CT.pathS mix Try.func128 hb hn (mvc_2 (A5 n) (by first | assumption | (simp[iN])) t8 (by first | assumption | (simp[iN])) t9) (by simp only[A5] at *;unfold A9;grind)
  case true=>
   cases t10:Av (A5 n).n.d 0 3
   case false=>exact CT.pathS mix Try.func128 hb hn (mvc_1 (A5 n) (by first | assumption | (simp[iN])) t8 (by first | assumption | (simp[iN])) t9 (by first | assumption | (simp[iN])) t10) (by simp only[A5] at *;unfold A9;grind)
   case true=>exact CT.pathS mix Try.func128 hb hn (mvc_0 (A5 n) (by first | assumption | (simp[iN])) t8 (by first | assumption | (simp[iN])) t9 (by first | assumption | (simp[iN])) t10 (by first | assumption | (simp[iN]))) (by simp only[A5] at *;unfold A9;grind)
theorem rcfg_ct(n:Aa):CT UB 115 [] [.agg [.int .i64 n.q,.int .i64 n.a,.int .i64 n.d,.int .i64 n.p]] [] (.bool (A9 n)):=by
 have hb:Try.f115.body=some (zB Try.f115):=by kernel_rfl
 have hn:[AV.agg [.int .i64 n.q,.int .i64 n.a,.int .i64 n.d,.int .i64 n.p]].length<=Try.f115.ntmps:=nL rfl;cases t11:decide (1<=(A5 n).n.q)
 case false=>exact CT.pathS mix Try.func115 hb hn (cg_7 (A5 n) t11) (by simp only[A5] at *;unfold A9 Av;grind)
 case true=>
  cases t12:decide ((A5 n).n.q<=8)
  case false=>exact CT.pathS mix Try.func115 hb hn (cg_6 (A5 n) t11 t12) (by simp only[A5] at *;unfold A9 Av;grind)
  case true=>
   cases t13:decide (0<=(A5 n).n.a)
   case false=>exact CT.pathS mix Try.func115 hb hn (cg_5 (A5 n) t11 t12 t13) (by simp only[A5] at *;unfold A9 Av;grind)
   case true=>
    cases t14:decide ((A5 n).n.a<=4)
    case false=>exact CT.pathS mix Try.func115 hb hn (cg_4 (A5 n) t11 t12 t13 t14) (by simp only[A5] at *;unfold A9 Av;grind)
    case true=>
     cases t15:decide (0<=(A5 n).n.d)
     case false=>exact CT.pathS mix Try.func115 hb hn (cg_3 (A5 n) t11 t12 t13 t14 t15) (by simp only[A5] at *;unfold A9 Av;grind)
     case true=>
      cases t16:decide ((A5 n).n.d<=3)
      case false=>exact CT.pathS mix Try.func115 hb hn (cg_2 (A5 n) t11 t12 t13 t14 t15 t16) (by simp only[A5] at *;unfold A9 Av;grind)
      case true=>
       cases t17:decide (1<=(A5 n).n.p)
       case false=>exact CT.pathS mix Try.func115 hb hn (cg_1 (A5 n) t11 t12 t13 t14 t15 t16 t17) (by simp only[A5] at *;unfold A9 Av;grind)
       case true=>exact CT.pathS mix Try.func115 hb hn (cg_0 (A5 n) t11 t12 t13 t14 t15 t16 t17) (by simp only[A5] at *;unfold A9 Av;grind)
def qR(r:List Int)(x y z:Int)(i:Nat)(k:Int):AE:={qM0 with r:=r,x:=x,y:=y,z:=z,i:=i,base:=k}
theorem vnext_ct(r:List Int)(x y:Int)(hr63:r.length<=9223372036854775807):CT UB 130 [] [lI r,.int .i64 x,.int .i64 y] [] (.bool (nxB r x y)):=by
 have hb:Try.f130.body=some (zB Try.f130):=by kernel_rfl
 have hn:[lI r,.int .i64 x,.int .i64 y].length<=Try.f130.ntmps:=nL rfl;have hl:(r.map (AV.int .i64)).length=r.length:=by simp
 unfold nxB;refine CT.path mix Try.func130 hb hn (vni_0 (qR r x y 0 0 0) ?_);generalize hrr:fnd (nxE r x y) 0 r.length=res;refine T.loop (fun i:Nat=>EW (qR r x y (BX r i) i 0)) (fun i=>i<=r.length/\fnd (nxE r x y) i (r.length-i)=res) (fun i=>r.length+1-i) 0 ⟨TJ _,hrr⟩ ?_
 rintro i ⟨hi,hf⟩
 by_cases h:i<r.length
 .rw[CV h] at hf;have dk:decide (iN i<iN (r.map (AV.int .i64)).length)=true:=TD (by simp only[iN,hl];omega);have k1:(0:Int)<=iN i:=by simp[iN]
  have hg:=Bu h;have next:nxE r x y i=false->∀st,Ren 0 st (EW (qR r x y (BX r (i+1)) (i+1) 0))->∃j,Ren 0 st (EW (qR r x y (BX r j) j 0))/\(j<=r.length/\fnd (nxE r x y) j (r.length-j)=res)/\r.length+1-j<r.length+1-i:=by intro hb st hst;simp only[hb] at hf;exact⟨i+1,hst,⟨h,hf⟩,by omega⟩
  have stop:nxE r x y i=true->res=some i:=by intro hb;simp only[hb] at hf;exact hf.symm
  have wi:i64.wrap (iN i+1)=((i+1:Nat):Int):=zW i (by have:=hr63;omega);cases t18:decide ((qR r x y (BX r i) i (r.getD i 0)).base<=(qR r x y (BX r i) i (r.getD i 0)).z)
  case false=>
   cases t19:decide ((qR r x y (BX r i) i (r.getD i 0)).y<=(qR r x y (BX r i) i (r.getD i 0)).base)
   case false=>
    cases t20:((qR r x y (BX r i) i (r.getD i 0)).base==(qR r x y (BX r i) i (r.getD i 0)).x)
    case false=>exact T.path mix (vnl_3 (qR r x y (BX r i) i (r.getD i 0)) dk (by assumption) (by assumption) t18 t19 t20 (fun st hst=>by simp only[qR,wi] at hst;exact next (by simp only[qR,iN,TG] at *;unfold nxE;grind) st (by simp only[qR,Rw];exact hst)))
    case true=>rw[stop (by simp only[qR,iN,TG] at *;unfold nxE;grind)];exact T.out mix (vnl_2 (qR r x y (BX r i) i (r.getD i 0)) dk (by assumption) (by assumption) t18 t19 t20)
   case true=>rw[stop (by simp only[qR,iN,TG] at *;unfold nxE;grind)];exact T.out mix (vnl_1 (qR r x y (BX r i) i (r.getD i 0)) dk (by assumption) (by assumption) t18 t19)
  case true=>rw[stop (by simp only[qR,iN,TG] at *;unfold nxE;grind)];exact T.out mix (vnl_0 (qR r x y (BX r i) i (r.getD i 0)) dk (by assumption) (by assumption) t18)
 .rw[C1 h] at hf;subst hf;rw[show (!(none:Option Nat).isSome&&decide (r.length<=4))=decide (iN (Uu iV r).length<=4) by simp[iN,hl];omega];exact T.out mix (vnl_4 (qR r x y (BX r i) i 0) (TC (by simp only[qR,iN,hl];omega)))
def Bp(l:List MapEntry):List Value:=l.map (·.key)
theorem Gw(l:List MapEntry):(Bp l).length=l.length:=by simp[Bp]
theorem H5{l:List MapEntry}{k:Value}:k∈Bp l↔∃e∈l,e.key=k:=by simp[Bp]
theorem IP{d:TypeDesc}{mk:MK}{k:Value}{l:List MapEntry}(hk:A2 d k=true)(hl:CN d mk l):
  (B3 d k l=none/\k∉Bp l)\/∃j e,B3 d k l=some (j,e.val)/\l[j]?=some e/\e.key=k:=by
 rcases Ii (HA hk) hl.keys with ⟨_,h2,h3⟩ | ⟨j,e,_,h2,h3,h4⟩
 .exact .inl ⟨h2,fun hm=>by obtain⟨e,he,hek⟩:=H5.1 hm;exact h3 e he hek⟩
 .exact .inr ⟨j,e,h2,h3,h4⟩
open Classical in
theorem Pu{d:TypeDesc}{mk:MK}{k v:Value}{l:List MapEntry}{c:Nat}(hk:A2 d k=true)(hl:CN d mk l):
  Bp (BS d k v l c)=if k∈Bp l then Bp l else Bp l++[k]:=by
 unfold BS;rcases IP hk hl with ⟨h1,h2⟩ | ⟨j,e,h1,h2,h3⟩
 .rw[h1,Tw h2];simp[Bp]
 .rw[h1,Tv (H5.2 ⟨e,TB h2,h3⟩)];simp only[Bp];apply List.ext_getElem?;intro i;simp only[TH,List.getElem?_modify];split
  .cases l[i]?<;>rfl
  .simp
theorem Po{d:TypeDesc}{mk:MK}{k v:Value}{l:List MapEntry}{c:Nat}(hk:A2 d k=true)(hv:BT mk v)(hl:CN d mk l):CN d mk (BS d k v l c):=by
 unfold BS;rcases IP hk hl with ⟨h1,h2⟩ | ⟨j,e,h1,h2,h3⟩
 .rw[h1];intro x hx;simp only[T3,Tm] at hx;rcases hx with hx | rfl
  .exact hl x hx
  .exact⟨hk,hv⟩
 .rw[h1];intro x hx;simp only at hx;obtain⟨i,hi⟩:=List.mem_iff_getElem?.1 hx;rw[List.getElem?_modify] at hi;split at hi
  .cases hli:l[i]? with
   | none=>rw[hli] at hi;cases hi
   | some y=>rw[hli] at hi;simp at hi;subst hi;exact⟨(hl y (TB hli)).1,hv⟩
  .exact hl x (TB (by simpa using hi))
theorem vals_upd{d:TypeDesc}{mk:MK}{k v:Value}{l:List MapEntry}{c:Nat}{p:Value->Prop}(hk:A2 d k=true)(hl:CN d mk l)(hp:∀e∈l,p e.val)(hv:p v):∀e∈BS d k v l c,p e.val:=by
 unfold BS;rcases IP hk hl with ⟨h1,h2⟩ | ⟨j,e,h1,h2,h3⟩
 .rw[h1];intro x hx;simp only[T3,Tm] at hx;rcases hx with hx | rfl
  .exact hp x hx
  .exact hv
 .rw[h1];intro x hx;simp only at hx;obtain⟨i,hi⟩:=List.mem_iff_getElem?.1 hx;rw[List.getElem?_modify] at hi;split at hi
  .cases hli:l[i]? with
   | none=>rw[hli] at hi;cases hi
   | some y=>rw[hli] at hi;simp at hi;subst hi;exact hv
  .exact hp x (TB (by simpa using hi))
structure DK(xs:List ByteArray)(l:List MapEntry):Prop where
 ok:CN .string (.i .i64) l
 key:∀x,Value.string x∈Bp l↔x∈xs
 le:l.length<=xs.length
 iff:l.length=xs.length↔xs.Nodup
theorem DK.nil:DK [] []:=⟨fun x hx=>(by cases hx),fun x=>(by simp[Bp]),TI _,(by simp)⟩
theorem DK.step{xs:List ByteArray}{l:List MapEntry}{c:Nat}{x:ByteArray}{n:Int}(h:DK xs l):DK (xs++[x]) (BS .string (.string x) (.int .i64 n) l c):=by
 have hk:A2 .string (.string x)=true:=rfl;have hku:=Pu (v:=.int .i64 n) (c:=c) hk h.ok;have hlen:=Gw (BS .string (.string x) (.int .i64 n) l c);rw[hku] at hlen;refine⟨Po hk rfl h.ok,fun y=>?_,?_,?_⟩
 .rw[hku];by_cases hx:Value.string x∈Bp l
  .rw[Tv hx,h.key];simp only[T3,Tm];exact⟨.inl,fun hy=>hy.elim id fun e=>by subst e;exact(h.key y).1 hx⟩
  .rw[Tw hx];simp only[T3,Tm,h.key];constructor
   .rintro(a | a)
    .exact .inl a
    .cases a;exact .inr rfl
   .rintro(a | rfl)
    .exact .inl a
    .exact .inr rfl
 .have:=h.le;by_cases hx:Value.string x∈Bp l
  .rw[Tv hx,Gw] at hlen;simp;omega
  .rw[Tw hx] at hlen;simp[Gw] at hlen;simp;omega
 .have hle:=h.le;by_cases hx:Value.string x∈Bp l
  .rw[Tv hx,Gw] at hlen;have hxx:=(h.key x).1 hx;constructor
   .intro he;simp at he;omega
   .intro hn;rw[List.nodup_append] at hn;exact absurd rfl (hn.2.2 x hxx x (by simp))
  .rw[Tw hx] at hlen;simp[Gw] at hlen;have hxx:x∉xs:=fun hh=>hx ((h.key x).2 hh)
   have:=h.iff;simp only[TU,Uc,List.nodup_append];constructor
   .intro he;refine⟨this.1 (by omega),by simp,fun a ha b hb=>?_⟩;simp at hb;subst hb;intro e;subst e;exact hxx ha
   .intro hn;have:=this.2 hn.1;omega
structure Bs(S:Int->Prop)(l:List MapEntry):Prop where
 ok:CN (.int .i64) .b l
 key:∀x,Value.int .i64 x∈Bp l↔S x
 nd:(Bp l).Nodup
 tru:∀e∈l,e.val = .bool true
theorem Bs.nil:Bs (fun _=>False) []:=⟨fun x hx=>(by cases hx),fun x=>(by simp[Bp]),(by simp[Bp]),fun e he=>(by cases he)⟩
theorem Bs.congr{S S':Int->Prop}{l:List MapEntry}(h:Bs S l)(hs:∀x,S x↔S' x):Bs S' l:=⟨h.ok,fun x=>(h.key x).trans (hs x),h.nd,h.tru⟩
theorem Ic(x:Int):A2 (.int .i64) (.int .i64 x)=true:=rfl
theorem Bs.put{S:Int->Prop}{l:List MapEntry}{c:Nat}{x:Int}(h:Bs S l):Bs (fun y=>S y\/y=x) (BS (.int .i64) (.int .i64 x) (.bool true) l c):=by
 have hku:=Pu (v:=.bool true) (c:=c) (Ic x) h.ok;refine⟨Po (Ic x) trivial h.ok,fun y=>?_,?_,vals_upd (p:=fun v=>v = .bool true) (Ic x) h.ok h.tru rfl⟩
 .rw[hku];by_cases hx:Value.int .i64 x∈Bp l
  .rw[Tv hx,h.key];exact⟨.inl,fun hy=>hy.elim id fun e=>by subst e;exact(h.key y).1 hx⟩
  .rw[Tw hx];simp only[T3,Tm,h.key,Value.int.injEq,true_and]
 .rw[hku];by_cases hx:Value.int .i64 x∈Bp l
  .rw[Tv hx];exact h.nd
  .rw[Tw hx,List.nodup_append];refine⟨h.nd,by simp,fun a ha b hb=>?_⟩;simp at hb;subst hb;intro e;subst e;exact hx ha
open Classical in
theorem Bs.get{S:Int->Prop}{l:List MapEntry}(h:Bs S l)(x:Int):F7 (.int .i64) (.int .i64 x) l=decide (S x):=by
 unfold F7;rcases IP (Ic x) h.ok with ⟨h1,h2⟩ | ⟨j,e,h1,h2,h3⟩
 .rw[h1];exact(TC fun hs=>h2 ((h.key x).2 hs)).symm
 .have hm:=TB h2;rw[h1,h.tru e hm];exact(TD ((h.key x).1 (H5.2 ⟨e,hm,h3⟩))).symm
theorem Bs.del{S:Int->Prop}{l:List MapEntry}{x:Int}(h:Bs S l):Bs (fun y=>S y/\y≠x) (CM (.int .i64) (.int .i64 x) l):=by
 unfold CM;rcases IP (Ic x) h.ok with ⟨h1,h2⟩ | ⟨j,e,h1,h2,h3⟩
 .rw[h1];exact h.congr fun y=>⟨fun hy=>⟨hy,fun e=>by subst e;exact h2 ((h.key y).2 hy)⟩,(·.1)⟩
 .rw[h1];simp only;have hj:=(Tz.1 h2).1;have hkj:(Bp l)[j]'(by rw[Gw];exact hj) = .int .i64 x:=by have:=(Tz.1 h2).2;simp[Bp,this,h3]
  have hke:Bp (l.eraseIdx j)=(Bp l).eraseIdx j:=by simp only[Bp,List.eraseIdx_eq_take_drop_succ,TM,List.map_take,List.map_drop]
  have hsub:List.Sublist (l.eraseIdx j) l:=List.eraseIdx_sublist l j;refine⟨fun y hy=>h.ok y (hsub.subset hy),fun y=>?_,?_,fun y hy=>h.tru y (hsub.subset hy)⟩
  .rw[hke,<-h.key];rw[List.mem_eraseIdx_iff_getElem];constructor
   .rintro⟨i,hi,hij,hiy⟩
    refine⟨hiy ▸ T5 _,fun e=>?_⟩;subst e;apply hij;exact(List.getElem_inj h.nd).1 (hiy.trans hkj.symm)
   .rintro⟨hy,hne⟩
    obtain⟨i,hi,hiy⟩:=Ua.1 hy;refine⟨i,hi,fun e=>?_,hiy⟩;subst e;rw[hiy] at hkj;simp at hkj;exact hne hkj
  .rw[hke];exact h.nd.sublist (List.eraseIdx_sublist _ _)
theorem Bs.pos{S:Int->Prop}{l:List MapEntry}(h:Bs S l):0<l.length↔∃x,S x:=by
 constructor
 .intro hp;have hm:=T5 (l:=l) (n:=0) hp;have hk:=(h.ok _ hm).1;cases hkv:l[0].key with
  | int k n=>rw[hkv] at hk;simp[A2] at hk;subst hk;exact⟨n,(h.key n).1 (H5.2 ⟨_,hm,hkv⟩)⟩
  | _=>rw[hkv] at hk;simp[A2] at hk
 .rintro⟨x,hx⟩
  obtain⟨e,he,_⟩:=H5.1 ((h.key x).2 hx);exact Us he
structure G7(n:Aa)(i:Nat)(b:AM):Prop where
 nm:nmB b.nm=true
 x:Av b.x (-9999) 9999=true
 y:Av b.y (-9999) 9999=true
 nx:nxB (n.nx.getD i []) i n.bs.length=true
def Az(n:Aa)(i:Nat):Int:=n.bs.length+((n.ss.take i).map (·.k)).sum
structure DC(n:Aa)(i:Nat)(s:Ao):Prop where
 nm:nmB s.nm=true
 hi:Av s.i 0 ((n.bs.length:Int)-1)=true
 ho:Av s.o 0 ((n.bs.length:Int)-1)=true
 hk:Av s.k 1 4=true
 hb:s.b=Az n i
def AW(n:Aa)(i:Nat)(x:Int):Prop:=∃s∈n.ss.take i,s.dep=true/\s.b<=x/\x<s.b+s.k
structure AB(n:Aa):Prop where
 nb:Av n.bs.length 1 24=true
 nx:n.nx.length=n.bs.length
 ns:n.ss.length<=6
 nr:n.rs.length<=8
 cfg:A9 n=true
 blk:∀i b,n.bs[i]?=some b->G7 n i b
 spu:∀i s,n.ss[i]?=some s->DC n i s
 nod:(B1 n).Nodup
 dep:∃x,AW n n.ss.length x
 rob:∀i c,n.rs[i]?=some c->AW n n.ss.length c/\c∉n.rs.take i
open Classical in
def AZ(n:Aa):Bool:=decide (AB n)
theorem Cv{n:Aa}(h:¬AB n):AZ n=false:=by unfold AZ;exact @TC _ (Classical.propDecidable _) h
theorem Cy{n:Aa}:AZ n=true↔AB n:=by unfold AZ;exact @decide_eq_true_iff _ (Classical.propDecidable _)
theorem Dm{n:Aa}{i:Nat}{s:Ao}(h:n.ss[i]?=some s):Az n (i+1)=Az n i+s.k:=by unfold Az;simp[List.take_add_one,h,List.sum_append];omega
theorem Oj{n:Aa}{i:Nat}{s:Ao}(h:n.ss[i]?=some s)(x:Int):AW n (i+1) x↔AW n i x\/(s.dep=true/\s.b<=x/\x<s.b+s.k):=by
 unfold AW;simp only[List.take_add_one,h,Option.toList_some,T3,Tm];constructor
 .rintro⟨t,ht | rfl,h1⟩
  .exact .inl ⟨t,ht,h1⟩
  .exact .inr h1
 .rintro(⟨t,ht,h1⟩ | h1)
  .exact⟨t,.inl ht,h1⟩
  .exact⟨s,.inr rfl,h1⟩
theorem KO{l:List AM}{i:Nat}{b:AM}(h:l[i]?=some b):(l.map bA)[i]?=some (.agg [.str b.nm,.int .i64 b.x,.int .i64 b.y]):=by rw[TH,h];rfl
theorem CZ{l:List Ao}{i:Nat}{s:Ao}(h:l[i]?=some s):(l.map sA)[i]?=some (.agg [.str s.nm,.bool s.dep,.int .i64 s.i,.int .i64 s.o,.int .i64 s.k,.int .i64 s.b]):=by rw[TH,h];rfl
def qV(n:Aa)(l:List MapEntry)(c:Nat)(l2:List MapEntry)(c2:Nat)(b:AM)(s:Ao)(r:List Int)(i:Nat)(base:Int)(k:Nat)(ok:Bool)(x:Int):AE:=⟨n,l,c,l2,c2,b,s,r,i,base,k,ok,x,0,0,false,⟨#[]⟩⟩
def b0:AM:=⟨⟨#[]⟩,0,0⟩
def s0:Ao:=⟨⟨#[]⟩,false,0,0,0,0⟩
structure MP where
 i:Nat
 l:List MapEntry
 c:Nat
 l2:List MapEntry
 c2:Nat
 k:Nat
 ok:Bool
open Classical in
theorem NW{n:Aa}(hnr:n.rs.length<=8){l2:List MapEntry}{c2:Nat}(hset:Bs (AW n n.ss.length) l2)(ok:Bool):
  T UB 0 (.loop (zC (zB Try.f93) 2)) (F2 (qV n [] 0 l2 c2 b0 s0 [] 0 0 0 ok 0)) (TK UB 0 (Fin UB Try.f93 0 [] (.bool (ok&&decide (∀i c,n.rs[i]?=some c->AW n n.ss.length c/\c∉n.rs.take i)))) (zK (zB Try.f93) 2)):=by
 have hl:(n.rs.map (AV.int .i64)).length=n.rs.length:=by simp
 refine T.loop (fun p:MP=>F2 (qV n [] 0 p.l2 p.c2 b0 s0 [] p.i 0 0 p.ok 0)) (fun p=>p.i<=n.rs.length/\Bs (fun x=>AW n n.ss.length x/\x∉n.rs.take p.i) p.l2/\p.ok=(ok&&decide (∀i c,i<p.i->n.rs[i]?=some c->AW n n.ss.length c/\c∉n.rs.take i)))
  (fun p=>n.rs.length+1-p.i) ⟨0,[],0,l2,c2,0,ok⟩ ⟨TJ _,hset.congr fun x=>by simp,by simp⟩ ?_
 rintro⟨i,l,c,l2,c2,k,ok'⟩ ⟨hi,hs,hok⟩
 simp only at hi hs hok
 by_cases h:i<n.rs.length
 .obtain⟨x,hx⟩:∃x,n.rs[i]?=some x:=⟨_,Tx h⟩
  have hg:(n.rs.map (AV.int .i64))[i]?=some (.int .i64 x):=by rw[TH,hx];rfl
  have dk:decide (iN i<iN (n.rs.map (AV.int .i64)).length)=true:=TD (by simp only[iN,hl];omega)
  have k1:(0:Int)<=iN i:=by simp[iN]
  have hm : ∀ (x : MapEntry), x ∈ l2 -> A2 (TypeInfo.mk (TypeDesc.int i64) "int" 1 8 false 8 8 (some (Value.int i64 0)) true #[]).desc x.key = true /\ BT MK.b x.val := hs.ok
  have wi:i64.wrap (iN i+1)=((i+1:Nat):Int):=zW i (by omega)
  have hgt:=hs.get x
  have hset':Bs (fun y=>AW n n.ss.length y/\y∉n.rs.take (i+1)) (CM (.int .i64) (.int .i64 x) l2):=hs.del.congr fun y=>by
   simp only[List.take_add_one,hx,Option.toList_some,T3,Tm,not_or,and_assoc]
  have hstep:∀b:Bool,b=(ok&&decide (∀i_1 c,i_1<i->n.rs[i_1]?=some c->AW n n.ss.length c/\c∉n.rs.take i_1))->
    (b&&decide (AW n n.ss.length x/\x∉n.rs.take i))=(ok&&decide (∀i_1 c,i_1<i+1->n.rs[i_1]?=some c->AW n n.ss.length c/\c∉n.rs.take i_1)):=by
   intro b hb
   rw[hb,Bool.and_assoc]
   congr 1
   rw[<-Bool.decide_and]
   apply decide_eq_decide.2
   constructor
   .rintro⟨h1,h2⟩ j y hj hy
    by_cases e:j=i
    .subst e;rw[hx] at hy;cases hy;exact h2
    .exact h1 j y (by omega) hy
   .intro hh
    exact⟨fun j y hj hy=>hh j y (by omega) hy,hh i x (by omega) hx⟩
  have next:∀b,b=(ok&&decide (∀i_1 c,i_1<i+1->n.rs[i_1]?=some c->AW n n.ss.length c/\c∉n.rs.take i_1))->∀st,Ren 0 st (F2 (qV n [] 0 (CM (.int .i64) (.int .i64 x) l2) c2 b0 s0 [] (i+1) 0 0 b 0))->
    ∃j,Ren 0 st ((fun p:MP=>F2 (qV n [] 0 p.l2 p.c2 b0 s0 [] p.i 0 0 p.ok 0)) j)/\((fun p:MP=>p.i<=n.rs.length/\Bs (fun x=>AW n n.ss.length x/\x∉n.rs.take p.i) p.l2/\p.ok=(ok&&decide (∀i c,i<p.i->n.rs[i]?=some c->AW n n.ss.length c/\c∉n.rs.take i))) j)/\n.rs.length+1-j.i<n.rs.length+1-i:=by
   intro b hb st hst
   exact⟨⟨i+1,[],0,_,c2,0,b⟩,hst,⟨h,hset',hb⟩,by simp only;omega⟩
  cases hb:ok'
  case true=>
   refine T.path mix (mvr_0 (qV n [] 0 l2 c2 b0 s0 [] i 0 0 true x) dk k1 hg rfl hm ?_)
   intro st hst
   simp only[qV,wi,hgt] at hst
   exact next _ (by rw[<-hstep ok' hok,hb,Bool.true_and];exact decide_eq_decide.2 Iff.rfl) st hst
  case false=>
   refine T.path mix (mvr_1 (qV n [] 0 l2 c2 b0 s0 [] i 0 0 false x) dk k1 hg rfl hm ?_)
   intro st hst
   simp only[qV,wi] at hst
   exact next false (by rw[<-hstep ok' hok,hb,Bool.false_and]) st hst
 .have hin:i=n.rs.length:=by omega
  have e:ok'=(ok&&decide (∀i c,n.rs[i]?=some c->AW n n.ss.length c/\c∉n.rs.take i)):=by
   rw[hok]
   congr 1
   apply decide_eq_decide.2
   constructor
   .intro hh j y hy;exact hh j y (by have:=(Tz.1 hy).1;omega) hy
   .intro hh j y _ hy;exact hh j y hy
  rw[<-e]
  exact T.out mix (mvr_2 (qV n [] 0 l2 c2 b0 s0 [] i 0 0 ok' 0) (TC (by simp only[qV,iN,hl];omega)))
end Go.Proofs.Ytedjkebooffjpaa

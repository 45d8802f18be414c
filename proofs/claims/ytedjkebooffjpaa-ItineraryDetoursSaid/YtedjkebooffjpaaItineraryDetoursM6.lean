/- Parts of the proof:Nm6p,NmN,NmO,NmP,NmQ,NmR,NmS,NmU,NmV,NmW,NmX,NmY,NmZ,NmZa,NmZb,NmZc,Pam,PaA,AxMl,UtA,LoA,St6m,StE,LoB,CeA,Ce1m,CeB,Ce2m,CeC,Ce3m,CeD,AxRw,RvA,RvB,Rv1m,Rv1A,RvC,RvD,Rv2m,RvE,AxNd,RqA,RqB,Cz1m,CzA,Rq1m,Rq2m,RqC,SpA,SpB,Sg1m,SgA,SgB,Sg2m,SgC. -/
import Derived.Test.YtedjkebooffjpaaProg
import Derived.KernelRfl
import Derived.Test.YtedjkebooffjpaaItineraryDetoursM5
noncomputable section
set_option linter.unusedVariables false
set_option linter.unusedSimpArgs false
open Go Go.AX Go.Proofs
set_option maxRecDepth 100000
set_option maxHeartbeats 4000000
set_option linter.unusedVariables false
open Go.IntKind (i64 u64)
open List renaming map->Uu,replicate->Uv
open Int renaming toNat->Uz
open Go.AX.AV renaming lst->UA
open Go.Proofs.Try renaming prog->UB
namespace Go.Proofs.Ytedjkebooffjpaa
structure QA where
 L:List Int
 kk:Nat
 t1:Nat
 t2:Nat
 t3:Nat
 t4:Nat
 bs:List AM
 g:List (List Int)
 g2:List (List Int)
 ss:List Ao
 rs:List Int
 k:Int
 base:Int
 u:ByteArray
 x:Int
 y:Int
 z:Int
 w:Int
 cg:Int
 cs:Int
 cc:Int
 fr:List Int
 i:Nat
 j:Nat
 s:Ao
 b1:Bool
 v5:Int
def zB8:Blk:={es:=[.agg [.nils,.nils,.nils,.nils,.int .i64 0,.int .i64 0,.int .i64 0,.int .i64 0]],z:=8}
def nA1(bs:List AM)(g:List (List Int)):Blk:={es:=[.agg [.sl 3 0 bs.length,.sl 4 0 g.length,.nils,.nils,.int .i64 0,.int .i64 0,.int .i64 0,.int .i64 0]],z:=8,flat:=false}
def nA2(bs:List AM)(g:List (List Int))(ss:List Ao):Blk:={es:=[.agg [.sl 3 0 bs.length,.sl 4 0 g.length,.sl 5 0 ss.length,.nils,.int .i64 0,.int .i64 0,.int .i64 0,.int .i64 0]],z:=8,flat:=false}
def ssB(ss:List Ao):Blk:={es:=ss.map sA,z:=6}
def cA(q:QA):Nat->FuncId->List AV->List (Option Blk)->AG:=fun dst f args hp=>match f with
 | 15=>match args,dst with
  | [.ptr b _ _,_],21=>.call [b] [] [Ag q.L q.t1] (.int .i64 q.x)
  | [.ptr b _ _,_],36=>.call [b] [] [Ag q.L q.t1] (.int .i64 q.x)
  | [.ptr b _ _,_],39=>.call [b] [] [Ag q.L q.t2] (.int .i64 q.y)
  | [.ptr b _ _,_],56=>.call [b] [] [Ag q.L q.t2] (.int .i64 q.x)
  | [.ptr b _ _,_],75=>.call [b] [] [Ag q.L q.t1] (.int .i64 q.x)
  | [.ptr b _ _,_],83=>.call [b] [] [Ag q.L q.t2] (.int .i64 q.y)
  | [.ptr b _ _,_],88=>.call [b] [] [Ag q.L q.t3] (.int .i64 q.z)
  | [.ptr b _ _,_],105=>.call [b] [] [Ag q.L q.t1] (.int .i64 q.x)
  | [.ptr b _ _,_],108=>.call [b] [] [Ag q.L q.t2] (.int .i64 q.y)
  | [.ptr b _ _,_],110=>.call [b] [] [Ag q.L q.t3] (.int .i64 q.z)
  | [.ptr b _ _,_],112=>.call [b] [] [Ag q.L q.t4] (.int .i64 q.w)
  | [.ptr b _ _,_],122=>.call [b] [] [Ag q.L (q.t4+1)] (.int .i64 q.v5)
  | [.ptr b _ _,_],184=>.call [b] [] [Ag q.L q.t1] (.int .i64 q.x)
  | [.ptr b _ _,_],90=>.call [b] [] [Ag q.L q.t4] (.int .i64 q.w)
  | _,_=>.no
 | 56=>.call [] [] [] (.str q.u)
 | 58=>.call [] [3,4,5] [] (.tup [.agg [.int .i64 q.cg,.any,.int .i64 q.cs,.int .i64 q.cc],.int .i64 0])
 | 26=>match args with
  | [.sl b _ _,_]=>.call [] [b] [] (.bool q.b1)
  | _=>.call [] [] [] (.bool q.b1)
 | 57=>.call [0,2,3,4] [] [Ag q.L q.t1,nJ q.bs q.g2,bsB q.bs,gB q.g2] (.tup [])
 | _=>.no
def eA(q:QA):List (Nat×AV):=[(47,.tup []),(148,.int .i64 q.s.k),(157,.bool q.s.dep),(166,.int .i64 q.s.b),(186,.int .i64 q.y)]
def nA3(bs:List AM)(g:List (List Int))(ss:List Ao)(x y z w:Int):Blk:={es:=[.agg [.sl 3 0 bs.length,.sl 4 0 g.length,.sl 5 0 ss.length,.nils,.int .i64 x,.int .i64 y,.int .i64 z,.int .i64 w]],z:=8,flat:=false}
def capB(a b c:Int):Blk:={es:=[.agg [.int .i64 a,.any,.int .i64 b,.int .i64 c]],z:=4}
def sN26(q:QA):St:={n:=Try.f28.ntmps,fr:=[(0,.ptr 0 0 0),(1,.int .i64 q.k)],hp:=[some (Ag q.L q.kk)]}
def FB(q:QA):St:={n:=Try.f28.ntmps,fr:=[(0,.ptr 0 0 0),(4,.ptr 1 0 0),(5,.ptr 2 0 0),(6,.int .i64 q.k)],hp:=[some (Ag q.L q.kk),some zB8,some zB8]}
def CU(q:QA):St:={n:=Try.f28.ntmps,fr:=[(0,.ptr 0 0 0),(4,.ptr 1 0 0),(5,.ptr 2 0 0),(6,.int .i64 q.k)],hp:=[some (Ag q.L q.kk),some zB8,some (nA1 q.bs q.g),some (bsB q.bs),some (gB q.g)]}
def D9(q:QA):St:={n:=Try.f28.ntmps,fr:=[(0,.ptr 0 0 0),(4,.ptr 1 0 0),(5,.ptr 2 0 0),(8,.int .i64 q.base),(9,.int .i64 q.k)],hp:=[some (Ag q.L q.kk),some zB8,some (nA1 q.bs q.g),some (bsB q.bs),some (gB q.g)]}
def B0(q:QA):St:={n:=Try.f28.ntmps,fr:=[(0,.ptr 0 0 0),(4,.ptr 1 0 0),(5,.ptr 2 0 0),(8,.int .i64 q.base),(9,.int .i64 q.k)],hp:=[some (Ag q.L q.kk),some zB8,some (nA2 q.bs q.g q.ss),some (bsB q.bs),some (gB q.g),some (ssB q.ss)]}
def nA5(bs:List AM)(g:List (List Int))(ss:List Ao)(rs:List Int)(x y z w:Int):Blk:={es:=[.agg [.sl 3 0 bs.length,.sl 4 0 g.length,.sl 5 0 ss.length,.sl 7 0 rs.length,.int .i64 x,.int .i64 y,.int .i64 z,.int .i64 w]],z:=8,flat:=false}
structure QF where
 L:List Int
 kk:Nat
 bs:List AM
 g:List (List Int)
 ss:List Ao
 rs:List Int
 cx:Int
 cy:Int
 cz:Int
 cw:Int
 cg:Int
 cs:Int
 cc:Int
 k:Int
 fr:List Int
 i:Nat
 j:Nat
 s:Ao
 b1:Bool
 x:Int
 y:Int
def cF(q:QF):Nat->FuncId->List AV->List (Option Blk)->AG:=fun dst f args hp=>match f with
 | 15=>match args with
  | [.ptr b _ _,_]=>.call [b] [] [Ag q.L (q.kk+1)] (.int .i64 q.x)
  | _=>.no
 | 26=>match args with
  | [.sl b _ _,_]=>.call [] [b] [] (.bool q.b1)
  | _=>.no
 | _=>.no
def eF2(q:QF):List (Nat×AV):=[(149,sA q.s),(157,sA q.s),(166,sA q.s),(186,.int .i64 q.y)]
def hF(q:QF):List (Option Blk):=[some (Ag q.L q.kk),some zB8,some (nA5 q.bs q.g q.ss q.rs q.cx q.cy q.cz q.cw),some (bsB q.bs),some (gB q.g),some (ssB q.ss),some (capB q.cg q.cs q.cc),some (dB q.rs)]
def Cm(q:QF):St:={n:=Try.f28.ntmps,fr:=[(0,.ptr 0 0 0),(4,.ptr 1 0 0),(5,.ptr 2 0 0),(12,.ptr 6 0 0),(14,.int .i64 q.k)],hp:=hF q}
def Ct(q:QF):St:={n:=Try.f28.ntmps,fr:=[(0,.ptr 0 0 0),(4,.ptr 1 0 0),(5,.ptr 2 0 0),(12,.ptr 6 0 0),(14,.int .i64 q.k),(15,.sl 8 0 q.fr.length),(16,.int .i64 (iN q.i))],hp:=hF q++[some (dB q.fr)]}
def DA(q:QF):St:={n:=Try.f28.ntmps,fr:=[(0,.ptr 0 0 0),(4,.ptr 1 0 0),(5,.ptr 2 0 0),(12,.ptr 6 0 0),(14,.int .i64 q.k),(15,.sl 8 0 q.fr.length),(16,.int .i64 (iN q.i)),(17,.int .i64 (iN q.j))],hp:=hF q++[some (dB q.fr)]}
theorem nti_0(q:QA)(h1:(CT UB 15 [some (Ag q.L q.kk)] [AV.ptr 0 0 0,iv q.k] [some (Ag q.L q.t1)] (iv q.x))){post:Exit->St->Prop}(ht:T UB 1 (.loop (zC (zB Try.f28) 0)) (St.mk 191 [(0,AV.ptr 0 0 0),(4,AV.ptr 1 0 0),(5,AV.ptr 2 0 0),(6,iv (i64.wrap (1+q.x)))] [some (Ag q.L q.t1),some (Blk.mk [AV.agg [AV.nils,AV.nils,AV.nils,AV.nils,iv 0,iv 0,iv 0,iv 0]] 8 true true none),some (Blk.mk [AV.agg [AV.nils,AV.nils,AV.nils,AV.nils,iv 0,iv 0,iv 0,iv 0]] 8 true true none)]) (TK UB 1 post (zK (zB Try.f28) 0))):GoP UB (hU [] (eA q) (cA q)) 1 (zB Try.f28) (sN26 q) post:=zR (σ:=[0,1,2]) (fz:=[]) (vars:=[0,4,5,6]) (by kernel_rfl) (aj (u2 (u2 (al (u2 (u2 (aj (k5 (al h1)) (u2 s2))))))) t8) ht
theorem ntl_0(q:QA)(h1:(decide (0<q.k)=true))(h2:(CT UB 56 [] [iv (iN q.bs.length)] [] (AV.str q.u)))(h3:((1+q.u.size).le 9223372036854775807))(h4:(CT UB 15 [some (Ag q.L q.kk)] [AV.ptr 0 0 0,iv 9] [some (Ag q.L q.t1)] (iv q.x)))(h5:(CT UB 15 [some (Ag q.L q.t1)] [AV.ptr 0 0 0,iv 9] [some (Ag q.L q.t2)] (iv q.y)))(h6:((Uu bA q.bs).length=q.bs.length))(h7:(1<=[AV.agg [AV.str (ByteArray.mk #[98]++q.u),iv (i64.wrap (q.x-4)),iv (i64.wrap (q.y-4))]].length))(h8:((Uu bA q.bs).length+[AV.agg [AV.str (ByteArray.mk #[98]++q.u),iv (i64.wrap (q.x-4)),iv (i64.wrap (q.y-4))]].length<=9223372036854775807))(h9:(((Uu bA q.bs).length+[AV.agg [AV.str (ByteArray.mk #[98]++q.u),iv (i64.wrap (q.x-4)),iv (i64.wrap (q.y-4))]].length) * 32<=140737488355328))(h10:((gL q.g).length=q.g.length))(h11:((gL q.g).length+1<=9223372036854775807))(h12:(((gL q.g).length+1) * 24<=140737488355328)){post:Exit->St->Prop}{R:St->Prop}(hR:∀st,Ren 1 st (St.mk 191 [(0,AV.ptr 0 0 0),(4,AV.ptr 1 0 0),(5,AV.ptr 2 0 0),(6,iv (i64.wrap (q.k-1)))] [some (Ag q.L q.t2),some (Blk.mk [AV.agg [AV.nils,AV.nils,AV.nils,AV.nils,iv 0,iv 0,iv 0,iv 0]] 8 true true none),some (Blk.mk [AV.agg [AV.sl 3 0 ((Uu bA q.bs).length+[AV.agg [AV.str (ByteArray.mk #[98]++q.u),iv (i64.wrap (q.x-4)),iv (i64.wrap (q.y-4))]].length),AV.sl 4 0 ((gL q.g).length+1),AV.nils,AV.nils,iv 0,iv 0,iv 0,iv 0]] 8 false true none),some (Blk.mk (Uu bA q.bs++[AV.agg [AV.str (ByteArray.mk #[98]++q.u),iv (i64.wrap (q.x-4)),iv (i64.wrap (q.y-4))]]) 3 true true none),some (Blk.mk (gL q.g++[UA []]) 1 true true none)])->R st):GoP UB (hU [49] (eA q) (cA q)) 1 (zC (zB Try.f28) 0) (CU q) (andThen R post):=zN (σ:=[0,1,2,6,8]) (fz:=[]) (vars:=[0,4,5,6]) (by kernel_rfl) (aj (aj (u2 s2) (aj h1 (aj (u2 (u2 (u2 s2))) (aj (u2 (u2 (u2 (aj (k2 (al h2)) (aj (ak h3) (u2 (aj (ak (k3 (al h4))) (u2 (u2 (aj (ak (k3 (al h5))) (u2 (aj t4 (u2 (aj (k2 (aj h6 (aj (aj (show(nat_lit 3=nat_lit 3) by first | decide | exact Tc _) h7) (aj h8 h9)))) (u2 (al t3)))))))))))))))) (aj (u2 (u2 (ak (aj (k2 (aj h10 (aj (aj (show(nat_lit 1=nat_lit 1) by first | decide | exact Tc _) (show(nat_lit 1<=nat_lit 1) by first | exact nL rfl | decide)) (aj h11 h12)))) (u2 (al t3)))))) (al (u2 (u2 s2)))))))) (ak (k5 (aj (al t9) t3)))) hR
theorem ntx_0(q:QA)(h1:(decide (0<q.k)=false))(h2:(CT UB 57 [some (Ag q.L q.kk),some (Blk.mk [AV.agg [AV.sl 2 0 q.bs.length,AV.sl 3 0 q.g.length,AV.nils,AV.nils,iv 0,iv 0,iv 0,iv 0]] 8 false true none),some (Blk.mk (Uu bA q.bs) 3 true true none),some (Blk.mk (gL q.g) 1 true true none)] [AV.ptr 0 0 0,AV.ptr 1 0 0] [some (Ag q.L q.t1),some (Blk.mk [AV.agg [AV.sl 2 0 q.bs.length,AV.sl 3 0 q.g2.length,AV.nils,AV.nils,iv 0,iv 0,iv 0,iv 0]] 8 false true none),some (Blk.mk (Uu bA q.bs) 3 true true none),some (Blk.mk (gL q.g2) 1 true true none)] (AV.tup [])))(h3:(CT UB 15 [some (Ag q.L q.t1)] [AV.ptr 0 0 0,iv 3] [some (Ag q.L q.t2)] (iv q.x))){post:Exit->St->Prop}(ht:T UB 1 (.loop (zC (zB Try.f28) 1)) (St.mk 191 [(0,AV.ptr 0 0 0),(4,AV.ptr 1 0 0),(5,AV.ptr 2 0 0),(8,iv (iN q.bs.length)),(9,iv (i64.wrap (3+q.x)))] [some (Ag q.L q.t2),some (Blk.mk [AV.agg [AV.nils,AV.nils,AV.nils,AV.nils,iv 0,iv 0,iv 0,iv 0]] 8 true true none),some (Blk.mk [AV.agg [AV.sl 3 0 q.bs.length,AV.sl 4 0 q.g2.length,AV.nils,AV.nils,iv 0,iv 0,iv 0,iv 0]] 8 false true none),some (Blk.mk (Uu bA q.bs) 3 true true none),some (Blk.mk (gL q.g2) 1 true true none)]) (TK UB 1 post (zK (zB Try.f28) 1))):GoO UB (hU [48] (eA q) (cA q)) 1 (zC (zB Try.f28) 0) (zK (zB Try.f28) 0) (CU q) post:=zR (σ:=[0,1,2,3,4]) (fz:=[]) (vars:=[0,4,5,8,9]) (by kernel_rfl) (aj (aj (aj (u2 s2) (al h1)) (aj (u2 (al (k5 (aj (al t9) (k2 (al h2)))))) (aj (u2 (u2 (u2 s2))) (al (u2 (aj (ak (k3 (al h3))) (u2 s2))))))) (k2 (k5 (aj (al t9) t3)))) ht
theorem nul_0(q:QA)(h1:(decide (0<q.k)=true))(h2:(CT UB 56 [] [iv (iN q.ss.length)] [] (AV.str q.u)))(h3:((1+q.u.size).le 9223372036854775807))(h4:((iN q.ss.length==0)=true))(h5:(CT UB 15 [some (Ag q.L q.kk)] [AV.ptr 0 0 0,iv (iN q.bs.length)] [some (Ag q.L q.t2)] (iv q.y)))(h6:(CT UB 15 [some (Ag q.L q.t2)] [AV.ptr 0 0 0,iv (iN q.bs.length)] [some (Ag q.L q.t3)] (iv q.z)))(h7:(CT UB 15 [some (Ag q.L q.t3)] [AV.ptr 0 0 0,iv 3] [some (Ag q.L q.t4)] (iv q.w)))(h8:((Uu sA q.ss).length=q.ss.length))(h9:(1<=[AV.agg [AV.str (ByteArray.mk #[115]++q.u),AV.bool true,iv q.y,iv q.z,iv (i64.wrap (1+q.w)),iv q.base]].length))(h10:((Uu sA q.ss).length+[AV.agg [AV.str (ByteArray.mk #[115]++q.u),AV.bool true,iv q.y,iv q.z,iv (i64.wrap (1+q.w)),iv q.base]].length<=9223372036854775807))(h11:(((Uu sA q.ss).length+[AV.agg [AV.str (ByteArray.mk #[115]++q.u),AV.bool true,iv q.y,iv q.z,iv (i64.wrap (1+q.w)),iv q.base]].length) * 56<=140737488355328)){post:Exit->St->Prop}{R:St->Prop}(hR:∀st,Ren 1 st (St.mk 191 [(0,AV.ptr 0 0 0),(4,AV.ptr 1 0 0),(5,AV.ptr 2 0 0),(8,iv (i64.wrap (q.base+i64.wrap (1+q.w)))),(9,iv (i64.wrap (q.k-1)))] [some (Ag q.L q.t4),some (Blk.mk [AV.agg [AV.nils,AV.nils,AV.nils,AV.nils,iv 0,iv 0,iv 0,iv 0]] 8 true true none),some (Blk.mk [AV.agg [AV.sl 3 0 q.bs.length,AV.sl 4 0 q.g.length,AV.sl 5 0 ((Uu sA q.ss).length+[AV.agg [AV.str (ByteArray.mk #[115]++q.u),AV.bool true,iv q.y,iv q.z,iv (i64.wrap (1+q.w)),iv q.base]].length),AV.nils,iv 0,iv 0,iv 0,iv 0]] 8 false true none),some (Blk.mk (Uu bA q.bs) 3 true true none),some (Blk.mk (gL q.g) 1 true true none),some (Blk.mk (Uu sA q.ss++[AV.agg [AV.str (ByteArray.mk #[115]++q.u),AV.bool true,iv q.y,iv q.z,iv (i64.wrap (1+q.w)),iv q.base]]) 6 true true none)])->R st):GoP UB (hU [119,141] (eA q) (cA q)) 1 (zC (zB Try.f28) 1) (B0 q) (andThen R post):=zN (σ:=[0,1,2,3,4,8]) (fz:=[]) (vars:=[0,4,5,8,9]) (by kernel_rfl) (aj (aj (u2 s2) (aj h1 (aj (u2 (u2 (u2 s2))) (aj (u2 (aj (k2 (al h2)) (aj (ak h3) (u2 (u2 (u2 (aj h4 (aj h4 (aj h4 (k3 (aj h4 (ag h4 (u2 (u2 (u2 (u2 (aj (k5 (al h5)) (u2 (u2 (u2 (u2 (aj (k5 (al h6)) (u2 (aj (ak (k3 (al h7))) (u2 (u2 (aj t7 (ak (al (k2 (show Nat.le (nat_lit 1) (nat_lit 1) from nL rfl))))))))))))))))))))))))))))))) (aj (u2 (u2 (u2 (aj t3 s2)))) (aj (u2 (u2 (u2 (u2 (aj (k2 (aj h8 (aj (aj (show(nat_lit 6=nat_lit 6) by first | decide | exact Tc _) h9) (aj h10 h11)))) (u2 (al t3))))))) (al (u2 (u2 s2))))))))) (k2 (k5 (aj (al t9) t4)))) hR
theorem nul_1(q:QA)(h1:(decide (0<q.k)=true))(h2:(CT UB 56 [] [iv (iN q.ss.length)] [] (AV.str q.u)))(h3:((1+q.u.size).le 9223372036854775807))(h4:((iN q.ss.length==0)=false))(h5:(decide (2<iN q.ss.length)=true))(h6:(CT UB 15 [some (Ag q.L q.kk)] [AV.ptr 0 0 0,iv 2] [some (Ag q.L q.t1)] (iv q.x)))(h7:(CT UB 15 [some (Ag q.L q.t1)] [AV.ptr 0 0 0,iv (iN q.bs.length)] [some (Ag q.L q.t2)] (iv q.y)))(h8:(CT UB 15 [some (Ag q.L q.t2)] [AV.ptr 0 0 0,iv (iN q.bs.length)] [some (Ag q.L q.t3)] (iv q.z)))(h9:(CT UB 15 [some (Ag q.L q.t3)] [AV.ptr 0 0 0,iv 3] [some (Ag q.L q.t4)] (iv q.w)))(h10:((Uu sA q.ss).length=q.ss.length))(h11:(1<=[AV.agg [AV.str (ByteArray.mk #[115]++q.u),AV.bool (q.x==0),iv q.y,iv q.z,iv (i64.wrap (1+q.w)),iv q.base]].length))(h12:((Uu sA q.ss).length+[AV.agg [AV.str (ByteArray.mk #[115]++q.u),AV.bool (q.x==0),iv q.y,iv q.z,iv (i64.wrap (1+q.w)),iv q.base]].length<=9223372036854775807))(h13:(((Uu sA q.ss).length+[AV.agg [AV.str (ByteArray.mk #[115]++q.u),AV.bool (q.x==0),iv q.y,iv q.z,iv (i64.wrap (1+q.w)),iv q.base]].length) * 56<=140737488355328)){post:Exit->St->Prop}{R:St->Prop}(hR:∀st,Ren 1 st (St.mk 191 [(0,AV.ptr 0 0 0),(4,AV.ptr 1 0 0),(5,AV.ptr 2 0 0),(8,iv (i64.wrap (q.base+i64.wrap (1+q.w)))),(9,iv (i64.wrap (q.k-1)))] [some (Ag q.L q.t4),some (Blk.mk [AV.agg [AV.nils,AV.nils,AV.nils,AV.nils,iv 0,iv 0,iv 0,iv 0]] 8 true true none),some (Blk.mk [AV.agg [AV.sl 3 0 q.bs.length,AV.sl 4 0 q.g.length,AV.sl 5 0 ((Uu sA q.ss).length+[AV.agg [AV.str (ByteArray.mk #[115]++q.u),AV.bool (q.x==0),iv q.y,iv q.z,iv (i64.wrap (1+q.w)),iv q.base]].length),AV.nils,iv 0,iv 0,iv 0,iv 0]] 8 false true none),some (Blk.mk (Uu bA q.bs) 3 true true none),some (Blk.mk (gL q.g) 1 true true none),some (Blk.mk (Uu sA q.ss++[AV.agg [AV.str (ByteArray.mk #[115]++q.u),AV.bool (q.x==0),iv q.y,iv q.z,iv (i64.wrap (1+q.w)),iv q.base]]) 6 true true none)])->R st):GoP UB (hU [119,140,147] (eA q) (cA q)) 1 (zC (zB Try.f28) 1) (B0 q) (andThen R post):=zN (σ:=[0,1,2,3,4,8]) (fz:=[]) (vars:=[0,4,5,8,9]) (by kernel_rfl) (aj (aj (u2 s2) (aj h1 (aj (u2 (u2 (u2 s2))) (aj (u2 (aj (k2 (al h2)) (aj (ak h3) (u2 (u2 (u2 (ag h4 (ag h4 (ag h4 (ag h5 (aj (aj h5 (ak (k3 (al h6)))) (ag h5 (aj (aj h4 (aj h5 t2)) (ag h4 (u2 (u2 (u2 (u2 (aj (k5 (al h7)) (u2 (u2 (u2 (u2 (aj (k5 (al h8)) (u2 (aj (ak (k3 (al h9))) (u2 (u2 (aj t7 (ak (al (k2 (show Nat.le (nat_lit 1) (nat_lit 1) from nL rfl))))))))))))))))))))))))))))))))) (aj (u2 (u2 (u2 (aj t3 s2)))) (aj (u2 (u2 (u2 (u2 (aj (k2 (aj h10 (aj (aj (show(nat_lit 6=nat_lit 6) by first | decide | exact Tc _) h11) (aj h12 h13)))) (u2 (al t3))))))) (al (u2 (u2 s2))))))))) (k2 (k5 (aj (al t9) t4)))) hR
theorem nul_2(q:QA)(h1:(decide (0<q.k)=true))(h2:(CT UB 56 [] [iv (iN q.ss.length)] [] (AV.str q.u)))(h3:((1+q.u.size).le 9223372036854775807))(h4:((iN q.ss.length==0)=false))(h5:(decide (2<iN q.ss.length)=false))(h6:(CT UB 15 [some (Ag q.L q.kk)] [AV.ptr 0 0 0,iv (iN q.bs.length)] [some (Ag q.L q.t2)] (iv q.y)))(h7:(CT UB 15 [some (Ag q.L q.t2)] [AV.ptr 0 0 0,iv (iN q.bs.length)] [some (Ag q.L q.t3)] (iv q.z)))(h8:(CT UB 15 [some (Ag q.L q.t3)] [AV.ptr 0 0 0,iv 3] [some (Ag q.L q.t4)] (iv q.w)))(h9:((Uu sA q.ss).length=q.ss.length))(h10:(1<=[AV.agg [AV.str (ByteArray.mk #[115]++q.u),AV.bool false,iv q.y,iv q.z,iv (i64.wrap (1+q.w)),iv q.base]].length))(h11:((Uu sA q.ss).length+[AV.agg [AV.str (ByteArray.mk #[115]++q.u),AV.bool false,iv q.y,iv q.z,iv (i64.wrap (1+q.w)),iv q.base]].length<=9223372036854775807))(h12:(((Uu sA q.ss).length+[AV.agg [AV.str (ByteArray.mk #[115]++q.u),AV.bool false,iv q.y,iv q.z,iv (i64.wrap (1+q.w)),iv q.base]].length) * 56<=140737488355328)){post:Exit->St->Prop}{R:St->Prop}(hR:∀st,Ren 1 st (St.mk 191 [(0,AV.ptr 0 0 0),(4,AV.ptr 1 0 0),(5,AV.ptr 2 0 0),(8,iv (i64.wrap (q.base+i64.wrap (1+q.w)))),(9,iv (i64.wrap (q.k-1)))] [some (Ag q.L q.t4),some (Blk.mk [AV.agg [AV.nils,AV.nils,AV.nils,AV.nils,iv 0,iv 0,iv 0,iv 0]] 8 true true none),some (Blk.mk [AV.agg [AV.sl 3 0 q.bs.length,AV.sl 4 0 q.g.length,AV.sl 5 0 ((Uu sA q.ss).length+[AV.agg [AV.str (ByteArray.mk #[115]++q.u),AV.bool false,iv q.y,iv q.z,iv (i64.wrap (1+q.w)),iv q.base]].length),AV.nils,iv 0,iv 0,iv 0,iv 0]] 8 false true none),some (Blk.mk (Uu bA q.bs) 3 true true none),some (Blk.mk (gL q.g) 1 true true none),some (Blk.mk (Uu sA q.ss++[AV.agg [AV.str (ByteArray.mk #[115]++q.u),AV.bool false,iv q.y,iv q.z,iv (i64.wrap (1+q.w)),iv q.base]]) 6 true true none)])->R st):GoP UB (hU [119,140,146] (eA q) (cA q)) 1 (zC (zB Try.f28) 1) (B0 q) (andThen R post):=zN (σ:=[0,1,2,3,4,8]) (fz:=[]) (vars:=[0,4,5,8,9]) (by kernel_rfl) (aj (aj (u2 s2) (aj h1 (aj (u2 (u2 (u2 s2))) (aj (u2 (aj (k2 (al h2)) (aj (ak h3) (u2 (u2 (u2 (ag h4 (ag h4 (ag h4 (aj h5 (aj h5 (aj h5 (aj (aj h4 (aj h5 t2)) (ag h4 (u2 (u2 (u2 (u2 (aj (k5 (al h6)) (u2 (u2 (u2 (u2 (aj (k5 (al h7)) (u2 (aj (ak (k3 (al h8))) (u2 (u2 (aj t7 (ak (al (k2 (show Nat.le (nat_lit 1) (nat_lit 1) from nL rfl))))))))))))))))))))))))))))))))) (aj (u2 (u2 (u2 (aj t3 s2)))) (aj (u2 (u2 (u2 (u2 (aj (k2 (aj h9 (aj (aj (show(nat_lit 6=nat_lit 6) by first | decide | exact Tc _) h10) (aj h11 h12)))) (u2 (al t3))))))) (al (u2 (u2 s2))))))))) (k2 (k5 (aj (al t9) t4)))) hR
theorem nux_0(q:QA)(h1:(decide (0<q.k)=false))(h2:(CT UB 15 [some (Ag q.L q.kk)] [AV.ptr 0 0 0,iv 4] [some (Ag q.L q.t1)] (iv q.x)))(h3:(CT UB 15 [some (Ag q.L q.t1)] [AV.ptr 0 0 0,iv 3] [some (Ag q.L q.t2)] (iv q.y)))(h4:(CT UB 15 [some (Ag q.L q.t2)] [AV.ptr 0 0 0,iv 3] [some (Ag q.L q.t3)] (iv q.z)))(h5:(CT UB 15 [some (Ag q.L q.t3)] [AV.ptr 0 0 0,iv 8] [some (Ag q.L q.t4)] (iv q.w)))(h6:(q.bs.length=(Uu bA q.bs).length))(h7:(q.g.length=(gL q.g).length))(h8:(q.ss.length=(Uu sA q.ss).length))(h9:(CT UB 58 [] [AV.agg [UA (Uu bA q.bs),UA (gL q.g),UA (Uu sA q.ss),AV.nils,iv (i64.wrap (1+q.x)),iv q.y,iv q.z,iv (i64.wrap (1+q.w))]] [] (AV.tup [AV.agg [iv q.cg,AV.any,iv q.cs,iv q.cc],iv 0])))(h10:(CT UB 15 [some (Ag q.L q.t4)] [AV.ptr 0 0 0,iv 3] [some (Ag q.L (q.t4+1))] (iv q.v5))){post:Exit->St->Prop}(ht:T UB 1 (.loop (zC (zB Try.f28) 2)) (St.mk 191 [(0,AV.ptr 0 0 0),(4,AV.ptr 1 0 0),(5,AV.ptr 2 0 0),(12,AV.ptr 6 0 0),(14,iv (i64.wrap (1+q.v5)))] [some (Ag q.L (q.t4+1)),some (Blk.mk [AV.agg [AV.nils,AV.nils,AV.nils,AV.nils,iv 0,iv 0,iv 0,iv 0]] 8 true true none),some (Blk.mk [AV.agg [AV.sl 3 0 q.bs.length,AV.sl 4 0 q.g.length,AV.sl 5 0 q.ss.length,AV.nils,iv (i64.wrap (1+q.x)),iv q.y,iv q.z,iv (i64.wrap (1+q.w))]] 8 false true none),some (Blk.mk (Uu bA q.bs) 3 true true none),some (Blk.mk (gL q.g) 1 true true none),some (Blk.mk (Uu sA q.ss) 6 true true none),some (Blk.mk [AV.agg [iv q.cg,AV.any,iv q.cs,iv q.cc]] 4 true true none)]) (TK UB 1 post (zK (zB Try.f28) 2))):GoO UB (hU [118] (eA q) (cA q)) 1 (zC (zB Try.f28) 1) (zK (zB Try.f28) 1) (B0 q) post:=zR (σ:=[0,1,2,3,4,5,6]) (fz:=[]) (vars:=[0,4,5,12,14]) (by kernel_rfl) (aj (aj (aj (u2 s2) (al h1)) (aj (u2 (aj (ak (k3 (al h2))) (u2 (u2 (aj (ak (k3 (al h3))) (u2 (aj (ak (k3 (al h4))) (u2 (aj (ak (k3 (al h5))) (u2 (aj t5 (u2 (al t3))))))))))))) (aj (u2 (aj (ak (aj (aj h6 (aj h7 (aj h8 t6))) (aj h9 (show(∀(blk:Blk),blk∈[]->B9 blk) by intro _ h;cases h)))) (u2 (u2 (u2 (ak (aj (k2 (show Nat.le (nat_lit 1) (nat_lit 1) from nL rfl)) s2))))))) (al (u2 (aj (ak (k3 (al h10))) (u2 s2))))))) (k2 (k5 (aj (al t9) t5)))) ht
theorem nvl_0(q:QF)(h1:(decide (0<q.k)=true))(h2:(decide (iN q.rs.length<q.cc)=true)){post:Exit->St->Prop}(ht:T UB 1 (.loop (zC (zC (zB Try.f28) 2) 0)) (St.mk 191 [(0,AV.ptr 0 0 0),(4,AV.ptr 1 0 0),(5,AV.ptr 2 0 0),(12,AV.ptr 6 0 0),(14,iv q.k),(15,AV.nils),(16,iv 0)] [some (Ag q.L q.kk),some (Blk.mk [AV.agg [AV.nils,AV.nils,AV.nils,AV.nils,iv 0,iv 0,iv 0,iv 0]] 8 true true none),some (Blk.mk [AV.agg [AV.sl 3 0 q.bs.length,AV.sl 4 0 q.g.length,AV.sl 5 0 q.ss.length,AV.sl 7 0 q.rs.length,iv q.cx,iv q.cy,iv q.cz,iv q.cw]] 8 false true none),some (Blk.mk (Uu bA q.bs) 3 true true none),some (Blk.mk (gL q.g) 1 true true none),some (Blk.mk (Uu sA q.ss) 6 true true none),some (Blk.mk [AV.agg [iv q.cg,AV.any,iv q.cs,iv q.cc]] 4 true true none),some (Blk.mk (Uu iv q.rs) 1 true true none)]) (TK UB 1 post (zK (zC (zB Try.f28) 2) 0))):GoP UB (hU [251,253,265,267] (eF2 q) (cF q)) 1 (zC (zB Try.f28) 2) (Cm q) post:=zR (σ:=[0,1,2,3,4,5,6,7]) (fz:=[]) (vars:=[0,4,5,12,14,15,16]) (by kernel_rfl) (aj (aj (u2 (u2 (aj (al h1) (ag (show(true=true) by first | decide | exact Tc _) (ag (show(true=true) by first | decide | exact Tc _) (ag (show(true=true) by first | decide | exact Tc _) (ag (show(true=true) by first | decide | exact Tc _) (ag (show(true=true) by first | decide | exact Tc _) (aj (aj (show(true=true) by first | decide | exact Tc _) t3) (al (aj (show(true=true) by first | decide | exact Tc _) (al h2)))))))))))) (aj (show(true=true) by first | decide | exact Tc _) (u2 s2))) (ak (k3 (k5 (aj (al t9) t6))))) ht
theorem nvx_0(q:QF)(h1:(decide (0<q.k)=false))(h2:(q.bs.length=(Uu bA q.bs).length))(h3:(q.g.length=(gL q.g).length))(h4:(q.ss.length=(Uu sA q.ss).length))(h5:(q.rs.length=(Uu iv q.rs).length)):GoO UB (hU [250,252,266] (eF2 q) (cF q)) 1 (zC (zB Try.f28) 2) (zK (zB Try.f28) 2) (Cm q) (Fin UB Try.f28 1 [some (Ag q.L q.kk)] (AV.agg [UA (Uu bA q.bs),UA (gL q.g),UA (Uu sA q.ss),UA (Uu iv q.rs),iv q.cx,iv q.cy,iv q.cz,iv q.cw])):=zF (σ:=[0]) (fz:=[3,4,5,7]) (by kernel_rfl) (aj (aj (aj (u2 (u2 (aj (al h1) (aj (show(false=false) by first | decide | exact Tc _) (aj (show(false=false) by first | decide | exact Tc _) (aj (show(false=false) by first | decide | exact Tc _) (aj (show(false=false) by first | decide | exact Tc _) (aj (show(false=false) by first | decide | exact Tc _) (aj (show(false=false) by first | decide | exact Tc _) (al (aj (show(false=false) by first | decide | exact Tc _) t2))))))))))) (al (show(false=false) by first | decide | exact Tc _))) (al (u2 (al (k2 (show Nat.le (nat_lit 1) (nat_lit 1) from nL rfl)))))) (aj (aj h2 (aj h3 (aj h4 (aj h5 t5)))) t2))
theorem nvy_0(q:QF)(h1:(decide (0<q.k)=true))(h2:(decide (iN q.rs.length<q.cc)=false))(h3:(q.bs.length=(Uu bA q.bs).length))(h4:(q.g.length=(gL q.g).length))(h5:(q.ss.length=(Uu sA q.ss).length))(h6:(q.rs.length=(Uu iv q.rs).length)):GoO UB (hU [251,253,264,266] (eF2 q) (cF q)) 1 (zC (zB Try.f28) 2) (zK (zB Try.f28) 2) (Cm q) (Fin UB Try.f28 1 [some (Ag q.L q.kk)] (AV.agg [UA (Uu bA q.bs),UA (gL q.g),UA (Uu sA q.ss),UA (Uu iv q.rs),iv q.cx,iv q.cy,iv q.cz,iv q.cw])):=zF (σ:=[0]) (fz:=[3,4,5,7]) (by kernel_rfl) (aj (aj (aj (u2 (u2 (aj (al h1) (ag (show(true=true) by first | decide | exact Tc _) (ag (show(true=true) by first | decide | exact Tc _) (ag (show(true=true) by first | decide | exact Tc _) (ag (show(true=true) by first | decide | exact Tc _) (ag (show(true=true) by first | decide | exact Tc _) (aj (aj (show(true=true) by first | decide | exact Tc _) t3) (al (aj (show(true=true) by first | decide | exact Tc _) (al h2)))))))))))) (al (show(false=false) by first | decide | exact Tc _))) (al (u2 (al (k2 (show Nat.le (nat_lit 1) (nat_lit 1) from nL rfl)))))) (aj (aj h3 (aj h4 (aj h5 (aj h6 t5)))) t2))
theorem nwl_0(q:QF)(h1:(decide (iN q.i<iN q.ss.length)=true)){post:Exit->St->Prop}(ht:T UB 1 (.loop (zC (zC (zC (zB Try.f28) 2) 0) 0)) (St.mk 191 [(0,AV.ptr 0 0 0),(4,AV.ptr 1 0 0),(5,AV.ptr 2 0 0),(12,AV.ptr 6 0 0),(14,iv q.k),(15,AV.sl 8 0 q.fr.length),(16,iv (iN q.i)),(17,iv 0)] [some (Ag q.L q.kk),some (Blk.mk [AV.agg [AV.nils,AV.nils,AV.nils,AV.nils,iv 0,iv 0,iv 0,iv 0]] 8 true true none),some (Blk.mk [AV.agg [AV.sl 3 0 q.bs.length,AV.sl 4 0 q.g.length,AV.sl 5 0 q.ss.length,AV.sl 7 0 q.rs.length,iv q.cx,iv q.cy,iv q.cz,iv q.cw]] 8 false true none),some (Blk.mk (Uu bA q.bs) 3 true true none),some (Blk.mk (gL q.g) 1 true true none),some (Blk.mk (Uu sA q.ss) 6 true true none),some (Blk.mk [AV.agg [iv q.cg,AV.any,iv q.cs,iv q.cc]] 4 true true none),some (Blk.mk (Uu iv q.rs) 1 true true none),some (Blk.mk (Uu iv q.fr) 1 true true none)]) (TK UB 1 post (zK (zC (zC (zB Try.f28) 2) 0) 0))):GoP UB (hU [281] (eF2 q) (cF q)) 1 (zC (zC (zB Try.f28) 2) 0) (Ct q) post:=zR (σ:=[0,1,2,3,4,5,6,7,8]) (fz:=[]) (vars:=[0,4,5,12,14,15,16,17]) (by kernel_rfl) (aj (aj (u2 (u2 (u2 (u2 (al t3))))) (aj h1 s2)) (k5 (k5 (aj (al t9) t7)))) ht
theorem nwx_0(q:QF)(h1:(decide (iN q.i<iN q.ss.length)=false))(h2:(CT UB 15 [some (Ag q.L q.kk)] [AV.ptr 0 0 0,iv (iN q.fr.length)] [some (Ag q.L (q.kk+1))] (iv q.x)))(h3:(0<=q.x))(h4:(q.x<iN q.fr.length))(h5:((Uu iv q.fr)[0+q.x.toNat]?=some (iv q.y)))(h6:((Uu iv q.rs).length=q.rs.length))(h7:(1<=[iv q.y].length))(h8:((Uu iv q.rs).length+[iv q.y].length<=9223372036854775807))(h9:(((Uu iv q.rs).length+[iv q.y].length) * 8<=140737488355328)){post:Exit->St->Prop}{R:St->Prop}(hR:∀st,Ren 1 st (St.mk 191 [(0,AV.ptr 0 0 0),(4,AV.ptr 1 0 0),(5,AV.ptr 2 0 0),(12,AV.ptr 6 0 0),(14,iv (i64.wrap (q.k-1)))] [some (Ag q.L (q.kk+1)),some (Blk.mk [AV.agg [AV.nils,AV.nils,AV.nils,AV.nils,iv 0,iv 0,iv 0,iv 0]] 8 true true none),some (Blk.mk [AV.agg [AV.sl 3 0 q.bs.length,AV.sl 4 0 q.g.length,AV.sl 5 0 q.ss.length,AV.sl 7 0 ((Uu iv q.rs).length+[iv q.y].length),iv q.cx,iv q.cy,iv q.cz,iv q.cw]] 8 false true none),some (Blk.mk (Uu bA q.bs) 3 true true none),some (Blk.mk (gL q.g) 1 true true none),some (Blk.mk (Uu sA q.ss) 6 true true none),some (Blk.mk [AV.agg [iv q.cg,AV.any,iv q.cs,iv q.cc]] 4 true true none),some (Blk.mk (Uu iv q.rs++[iv q.y]) 1 true true none)])->R st):GoO UB (hU [280] (eF2 q) (cF q)) 1 (zC (zC (zB Try.f28) 2) 0) (zK (zC (zB Try.f28) 2) 0) (Ct q) (andThen R post):=zN (σ:=[0,1,2,3,4,5,6,10]) (fz:=[]) (vars:=[0,4,5,12,14]) (by kernel_rfl) (aj (aj (aj (u2 (u2 (u2 (u2 (al t3))))) (al h1)) (aj (u2 (u2 (u2 (u2 (u2 (u2 (aj (k5 (al h2)) (aj (k2 (aj h3 h4)) (aj (ak h5) (u2 (aj (k2 (aj h6 (aj (aj (show(nat_lit 1=nat_lit 1) by first | decide | exact Tc _) h7) (aj h8 h9)))) (u2 (al t3))))))))))))) (al (u2 (u2 s2))))) (k2 (k5 (aj (al t9) t6)))) hR
theorem nxa_0(q:QF)(h1:(0<=iN q.i))(h2:(iN q.i<iN q.ss.length))(h3:((Uu sA q.ss)[0+(iN q.i).toNat]?=some (sA q.s)))(h4:(decide (iN q.j<q.s.k)=true))(h5:(q.s.dep=true))(h6:(q.rs.length=(Uu iv q.rs).length))(h7:(CT UB 26 [] [UA (Uu iv q.rs),iv (i64.wrap (q.s.b+iN q.j))] [] (AV.bool q.b1)))(h8:((!q.b1)=true))(h9:((Uu iv q.fr).length=q.fr.length))(h10:(1<=[iv (i64.wrap (q.s.b+iN q.j))].length))(h11:((Uu iv q.fr).length+[iv (i64.wrap (q.s.b+iN q.j))].length<=9223372036854775807))(h12:(((Uu iv q.fr).length+[iv (i64.wrap (q.s.b+iN q.j))].length) * 8<=140737488355328)){post:Exit->St->Prop}{R:St->Prop}(hR:∀st,Ren 1 st (St.mk 191 [(0,AV.ptr 0 0 0),(4,AV.ptr 1 0 0),(5,AV.ptr 2 0 0),(12,AV.ptr 6 0 0),(14,iv q.k),(15,AV.sl 8 0 ((Uu iv q.fr).length+[iv (i64.wrap (q.s.b+iN q.j))].length)),(16,iv (iN q.i)),(17,iv (i64.wrap (iN q.j+1)))] [some (Ag q.L q.kk),some (Blk.mk [AV.agg [AV.nils,AV.nils,AV.nils,AV.nils,iv 0,iv 0,iv 0,iv 0]] 8 true true none),some (Blk.mk [AV.agg [AV.sl 3 0 q.bs.length,AV.sl 4 0 q.g.length,AV.sl 5 0 q.ss.length,AV.sl 7 0 q.rs.length,iv q.cx,iv q.cy,iv q.cz,iv q.cw]] 8 false true none),some (Blk.mk (Uu bA q.bs) 3 true true none),some (Blk.mk (gL q.g) 1 true true none),some (Blk.mk (Uu sA q.ss) 6 true true none),some (Blk.mk [AV.agg [iv q.cg,AV.any,iv q.cs,iv q.cc]] 4 true true none),some (Blk.mk (Uu iv q.rs) 1 true true none),some (Blk.mk (Uu iv q.fr++[iv (i64.wrap (q.s.b+iN q.j))]) 1 true true none)])->R st):GoP UB (hU [301,303,317,347] (eF2 q) (cF q)) 1 (zC (zC (zC (zB Try.f28) 2) 0) 0) (DA q) (andThen R post):=zN (σ:=[0,1,2,3,4,5,6,7,10]) (fz:=[]) (vars:=[0,4,5,12,14,15,16,17]) (by kernel_rfl) (aj (aj (u2 (u2 (u2 (u2 (aj (k2 (aj h1 h2)) (u2 (aj (ak h3) (aj t3 (aj (al h4) (ag (show(true=true) by first | decide | exact Tc _) (ag (show(true=true) by first | decide | exact Tc _) (ag (show(true=true) by first | decide | exact Tc _) (aj (aj (show(true=true) by first | decide | exact Tc _) (k2 (aj h1 h2))) (ag (show(true=true) by first | decide | exact Tc _) (aj (aj (show(true=true) by first | decide | exact Tc _) (ak h3)) (al (aj (show(true=true) by first | decide | exact Tc _) t2))))))))))))))))) (aj h5 (aj (u2 (u2 (u2 (aj (k2 (aj h1 h2)) (u2 (aj (ak h3) (u2 (aj t3 s2)))))))) (aj (u2 (u2 (u2 (aj (k2 (aj h6 (ak (aj h7 (show(∀(blk:Blk),blk∈[]->B9 blk) by intro _ h;cases h))))) s2)))) (aj h8 (aj (u2 (u2 (u2 (aj (k2 (aj h9 (aj (aj (show(nat_lit 1=nat_lit 1) by first | decide | exact Tc _) h10) (aj h11 h12)))) s2)))) (al (u2 (u2 s2))))))))) (k5 (k5 (aj (al t9) t7)))) hR
theorem nxb_0(q:QF)(h1:(0<=iN q.i))(h2:(iN q.i<iN q.ss.length))(h3:((Uu sA q.ss)[0+(iN q.i).toNat]?=some (sA q.s)))(h4:(decide (iN q.j<q.s.k)=true))(h5:(q.s.dep=true))(h6:(q.rs.length=(Uu iv q.rs).length))(h7:(CT UB 26 [] [UA (Uu iv q.rs),iv (i64.wrap (q.s.b+iN q.j))] [] (AV.bool q.b1)))(h8:((!q.b1)=false)){post:Exit->St->Prop}{R:St->Prop}(hR:∀st,Ren 1 st (St.mk 191 [(0,AV.ptr 0 0 0),(4,AV.ptr 1 0 0),(5,AV.ptr 2 0 0),(12,AV.ptr 6 0 0),(14,iv q.k),(15,AV.sl 8 0 q.fr.length),(16,iv (iN q.i)),(17,iv (i64.wrap (iN q.j+1)))] [some (Ag q.L q.kk),some (Blk.mk [AV.agg [AV.nils,AV.nils,AV.nils,AV.nils,iv 0,iv 0,iv 0,iv 0]] 8 true true none),some (Blk.mk [AV.agg [AV.sl 3 0 q.bs.length,AV.sl 4 0 q.g.length,AV.sl 5 0 q.ss.length,AV.sl 7 0 q.rs.length,iv q.cx,iv q.cy,iv q.cz,iv q.cw]] 8 false true none),some (Blk.mk (Uu bA q.bs) 3 true true none),some (Blk.mk (gL q.g) 1 true true none),some (Blk.mk (Uu sA q.ss) 6 true true none),some (Blk.mk [AV.agg [iv q.cg,AV.any,iv q.cs,iv q.cc]] 4 true true none),some (Blk.mk (Uu iv q.rs) 1 true true none),some (Blk.mk (Uu iv q.fr) 1 true true none)])->R st):GoP UB (hU [301,303,317,346] (eF2 q) (cF q)) 1 (zC (zC (zC (zB Try.f28) 2) 0) 0) (DA q) (andThen R post):=zN (σ:=[0,1,2,3,4,5,6,7,8]) (fz:=[]) (vars:=[0,4,5,12,14,15,16,17]) (by kernel_rfl) (aj (aj (u2 (u2 (u2 (u2 (aj (k2 (aj h1 h2)) (u2 (aj (ak h3) (aj t3 (aj (al h4) (ag (show(true=true) by first | decide | exact Tc _) (ag (show(true=true) by first | decide | exact Tc _) (ag (show(true=true) by first | decide | exact Tc _) (aj (aj (show(true=true) by first | decide | exact Tc _) (k2 (aj h1 h2))) (ag (show(true=true) by first | decide | exact Tc _) (aj (aj (show(true=true) by first | decide | exact Tc _) (ak h3)) (al (aj (show(true=true) by first | decide | exact Tc _) t2))))))))))))))))) (aj h5 (aj (u2 (u2 (u2 (aj (k2 (aj h1 h2)) (u2 (aj (ak h3) (u2 (aj t3 s2)))))))) (aj (u2 (u2 (u2 (aj (k2 (aj h6 (ak (aj h7 (show(∀(blk:Blk),blk∈[]->B9 blk) by intro _ h;cases h))))) s2)))) (aj h8 (al (u2 (u2 s2)))))))) (k5 (k5 (aj (al t9) t7)))) hR
theorem nxx_0(q:QF)(h1:(0<=iN q.i))(h2:(iN q.i<iN q.ss.length))(h3:((Uu sA q.ss)[0+(iN q.i).toNat]?=some (sA q.s)))(h4:(decide (iN q.j<q.s.k)=true))(h5:(q.s.dep=false)){post:Exit->St->Prop}{R:St->Prop}(hR:∀st,Ren 1 st (St.mk 191 [(0,AV.ptr 0 0 0),(4,AV.ptr 1 0 0),(5,AV.ptr 2 0 0),(12,AV.ptr 6 0 0),(14,iv q.k),(15,AV.sl 8 0 q.fr.length),(16,iv (i64.wrap (iN q.i+1)))] [some (Ag q.L q.kk),some (Blk.mk [AV.agg [AV.nils,AV.nils,AV.nils,AV.nils,iv 0,iv 0,iv 0,iv 0]] 8 true true none),some (Blk.mk [AV.agg [AV.sl 3 0 q.bs.length,AV.sl 4 0 q.g.length,AV.sl 5 0 q.ss.length,AV.sl 7 0 q.rs.length,iv q.cx,iv q.cy,iv q.cz,iv q.cw]] 8 false true none),some (Blk.mk (Uu bA q.bs) 3 true true none),some (Blk.mk (gL q.g) 1 true true none),some (Blk.mk (Uu sA q.ss) 6 true true none),some (Blk.mk [AV.agg [iv q.cg,AV.any,iv q.cs,iv q.cc]] 4 true true none),some (Blk.mk (Uu iv q.rs) 1 true true none),some (Blk.mk (Uu iv q.fr) 1 true true none)])->R st):GoO UB (hU [316,303] (eF2 q) (cF q)) 1 (zC (zC (zC (zB Try.f28) 2) 0) 0) (zK (zC (zC (zB Try.f28) 2) 0) 0) (DA q) (andThen R post):=zN (σ:=[0,1,2,3,4,5,6,7,8]) (fz:=[]) (vars:=[0,4,5,12,14,15,16]) (by kernel_rfl) (aj (aj (aj (u2 (u2 (u2 (u2 (aj (k2 (aj h1 h2)) (u2 (aj (ak h3) (aj t3 (u2 (ag h4 (ag h4 (ag h4 (aj (aj h4 (k2 (aj h1 h2))) (ag h4 (aj (aj h4 (ak h3)) (al (aj h4 t2))))))))))))))))) (al h5)) (al (u2 (u2 s2)))) (ak (k3 (k5 (aj (al t9) t7))))) hR
theorem nxx_1(q:QF)(h1:(0<=iN q.i))(h2:(iN q.i<iN q.ss.length))(h3:((Uu sA q.ss)[0+(iN q.i).toNat]?=some (sA q.s)))(h4:(decide (iN q.j<q.s.k)=false)){post:Exit->St->Prop}{R:St->Prop}(hR:∀st,Ren 1 st (St.mk 191 [(0,AV.ptr 0 0 0),(4,AV.ptr 1 0 0),(5,AV.ptr 2 0 0),(12,AV.ptr 6 0 0),(14,iv q.k),(15,AV.sl 8 0 q.fr.length),(16,iv (i64.wrap (iN q.i+1)))] [some (Ag q.L q.kk),some (Blk.mk [AV.agg [AV.nils,AV.nils,AV.nils,AV.nils,iv 0,iv 0,iv 0,iv 0]] 8 true true none),some (Blk.mk [AV.agg [AV.sl 3 0 q.bs.length,AV.sl 4 0 q.g.length,AV.sl 5 0 q.ss.length,AV.sl 7 0 q.rs.length,iv q.cx,iv q.cy,iv q.cz,iv q.cw]] 8 false true none),some (Blk.mk (Uu bA q.bs) 3 true true none),some (Blk.mk (gL q.g) 1 true true none),some (Blk.mk (Uu sA q.ss) 6 true true none),some (Blk.mk [AV.agg [iv q.cg,AV.any,iv q.cs,iv q.cc]] 4 true true none),some (Blk.mk (Uu iv q.rs) 1 true true none),some (Blk.mk (Uu iv q.fr) 1 true true none)])->R st):GoO UB (hU [316,302] (eF2 q) (cF q)) 1 (zC (zC (zC (zB Try.f28) 2) 0) 0) (zK (zC (zC (zB Try.f28) 2) 0) 0) (DA q) (andThen R post):=zN (σ:=[0,1,2,3,4,5,6,7,8]) (fz:=[]) (vars:=[0,4,5,12,14,15,16]) (by kernel_rfl) (aj (aj (aj (u2 (u2 (u2 (u2 (aj (k2 (aj h1 h2)) (u2 (aj (ak h3) (aj t3 (u2 (aj h4 (aj h4 (aj h4 (aj h4 (aj h4 (aj h4 (al (aj h4 t2))))))))))))))))) (al (show(false=false) by first | decide | exact Tc _))) (al (u2 (u2 s2)))) (ak (k3 (k5 (aj (al t9) t7))))) hR
end Go.Proofs.Ytedjkebooffjpaa
set_option linter.unusedSimpArgs false
namespace Go.Proofs.Ytedjkebooffjpaa
def frU(Q:QF)(fr:List Int)(i j:Nat)(s:Ao)(b1:Bool):QF:={Q with fr:=fr,i:=i,j:=j,s:=s,b1:=b1}
def Bq(s:Ao)(rs:List Int)(j:Nat):List Int:=((List.range j).map fun(t:Nat)=>s.b+(t:Int)).filter fun x=> !Ay rs x
def CJ(s:Ao)(rs:List Int):List Int:=if s.dep=true then Bq s rs s.k.toNat else []
def BA(ss:List Ao)(rs:List Int)(i:Nat):List Int:=(ss.take i).flatMap fun s=>CJ s rs
theorem Su{s:Ao}{rs:List Int}{j:Nat}:Bq s rs (j+1)=Bq s rs j++if Ay rs (s.b+(j:Int))=true then [] else [s.b+(j:Int)]:=by unfold Bq;rw[Um,TM,List.filter_append];congr 1;cases hh:Ay rs (s.b+(j:Int))<;>simp[hh]
theorem J9{ss:List Ao}{rs:List Int}{i:Nat}{s:Ao}(h:ss[i]?=some s):BA ss rs (i+1)=BA ss rs i++CJ s rs:=by unfold BA;rw[List.take_add_one,h,List.flatMap_append];simp
theorem Qn{s:Ao}{rs:List Int}{j:Nat}:(Bq s rs j).length<=j:=by unfold Bq;exact Uf (List.length_filter_le _ _) (by simp)
theorem nx_run{Q:QF}{F:List Int}(hF:F.length<=1000)(hrs:Q.rs.length<=100){i:Nat}{s:Ao}(hs:Q.ss[i]?=some s)(hi:i<=100)(hk:1<=s.k/\s.k<=4)(hb:0<=s.b/\s.b<=1000){R:St->Prop}{post:Exit->St->Prop}
  (hR:∀st,Ren 1 st (Ct (frU Q (F++CJ s Q.rs) (i+1) 0 s0 false))->R st):
  T UB 1 (.loop (zC (zC (zC (zB Try.f28) 2) 0) 0)) (DA (frU Q F i 0 s0 false)) (TK UB 1 (andThen R post) (zK (zC (zC (zB Try.f28) 2) 0) 0)):=by
 have k0:(0:Int)<=iN i:=by simp[iN]
 have hil:=(Tz.1 hs).1;have hil':iN i<iN Q.ss.length:=by simp only[iN];omega
 have hg:(Q.ss.map sA)[0+(iN i).toNat]?=some (.agg [.str s.nm,.bool s.dep,.int .i64 s.i,.int .i64 s.o,.int .i64 s.k,.int .i64 s.b]):=by rw[TP];exact CZ hs
 have wi:i64.wrap (iN i+1)=((i+1:Nat):Int):=zW i (by omega);have hrl:=BV Q.rs;rcases Bool.eq_false_or_eq_true s.dep with hd | hd
 .have eS:CJ s Q.rs=Bq s Q.rs s.k.toNat:=by unfold CJ;rw[Tv hd]
  rw[eS] at hR;have e0:F++Bq s Q.rs 0=F:=by simp[Bq]
  suffices hh:T UB 1 (.loop (zC (zC (zC (zB Try.f28) 2) 0) 0)) (DA (frU Q (F++Bq s Q.rs 0) i 0 s0 false)) (TK UB 1 (andThen R post) (zK (zC (zC (zB Try.f28) 2) 0) 0)) by rw[e0] at hh;exact hh
  refine T.loop (fun j:Nat=>DA (frU Q (F++Bq s Q.rs j) i j s0 false)) (fun j=>(j:Int)<=s.k) (fun j=>(s.k+1-j).toNat) 0 (by omega) ?_;intro j hj;by_cases h:(j:Int)<s.k
  .have dk:decide (iN j<s.k)=true:=TD h;have wx:i64.wrap (s.b+iN j)=s.b+(j:Int):=A6 _ (by simp only[iN];omega) (by simp only[iN];omega);have wj:i64.wrap (iN j+1)=((j+1:Nat):Int):=zW j (by omega);have hsucc:=Su (s:=s) (rs:=Q.rs) (j:=j);have hfl:=Qn (s:=s) (rs:=Q.rs) (j:=j);have next:∀st,Ren 1 st (DA (frU Q (F++Bq s Q.rs (j+1)) i (j+1) s0 false))->∃j',Ren 1 st (DA (frU Q (F++Bq s Q.rs j') i j' s0 false))/\(j':Int)<=s.k/\(s.k+1-j').toNat<(s.k+1-j).toNat:=fun st hst=>⟨j+1,hst,by omega,by omega⟩
   rw[hsucc] at next
   have hh66:=Fl Q.rs (i64.wrap (s.b+iN j)) (by omega);rw[<-wx] at next
   have hcl:=BV (F++Bq s Q.rs j);cases hh:Ay Q.rs (i64.wrap (s.b+iN j)) with
   | false=>
    rw[hh] at hh66;rw[Tw (by rw[hh];simp)] at next
    have hlen:(F++Bq s Q.rs j).length<=2000:=by rw[TU];omega
    refine T.path mix (nxa_0 (frU Q (F++Bq s Q.rs j) i j s false) k0 hil' hg dk hd (by simp only[frU,hrl]) hh66 rfl (by simp only[frU,hcl]) (by simp) (by simp only[frU,hcl,Uc];omega) (by simp only[frU,hcl,Uc];omega) ?_);intro st hst;refine next st ?_
    simp only[frU,wj] at hst;have e1:(F++(Bq s Q.rs j++[i64.wrap (s.b+iN j)])).length=(Uu (AV.int .i64) (F++Bq s Q.rs j)).length+[AV.int .i64 (i64.wrap (s.b+iN j))].length:=by simp;omega
    have e2:(F++(Bq s Q.rs j++[i64.wrap (s.b+iN j)])).map (AV.int .i64)=Uu (AV.int .i64) (F++Bq s Q.rs j)++[AV.int .i64 (i64.wrap (s.b+iN j))]:=by simp
    unfold DA dB;simp only[frU];rw[e1,e2];exact hst
   | true=>
    rw[hh] at hh66;rw[Tv hh,List.append_nil] at next
    refine T.path mix (nxb_0 (frU Q (F++Bq s Q.rs j) i j s true) k0 hil' hg dk hd (by simp only[frU,hrl]) hh66 rfl ?_);intro st hst;simp only[frU,wj] at hst;exact next st hst
  .have ej:j=s.k.toNat:=by omega
   refine T.out mix (nxx_1 (frU Q (F++Bq s Q.rs j) i j s false) k0 hil' hg (TC h) ?_);intro st hst;simp only[frU,wi] at hst;rw[ej] at hst;exact hR st hst
 .have eS:CJ s Q.rs=[]:=by unfold CJ;rw[Tw (by rw[hd];simp)]
  rw[eS,List.append_nil] at hR;refine T.loop (fun _:Unit=>DA (frU Q F i 0 s0 false)) (fun _=>True) (fun _=>0) () trivial ?_;intro _ _;refine T.out mix (nxx_0 (frU Q F i 0 s false) k0 hil' hg (TD (by simp only[frU,iN];omega)) hd ?_);intro st hst;simp only[frU,wi] at hst;exact hR st hst
theorem Pr{ss:List Ao}{rs:List Int}(hk:∀s∈ss,s.k<=4):∀i,i<=ss.length->(BA ss rs i).length<=4 * i:=by
 intro i;induction i with
 | zero=>intro _;simp[BA]
 | succ i ih=>
  intro h;obtain⟨s,hs⟩:∃s,ss[i]?=some s:=⟨_,Tx h⟩;rw[J9 hs,TU];have h1:=ih (by omega);have h2:=hk s (TB hs);have h3:(CJ s rs).length<=4:=by
   unfold CJ;split
   .have:=Qn (s:=s) (rs:=rs) (j:=s.k.toNat);omega
   .simp
  omega
structure SpOk(ss:List Ao):Prop where
 len:ss.length<=6
 k:∀s∈ss,1<=s.k/\s.k<=4
 b:∀s∈ss,0<=s.b/\s.b<=1000
def Fp(Q:QF):Int:=(BA Q.ss Q.rs Q.ss.length).getD (Ae Q.L Q.kk (BA Q.ss Q.rs Q.ss.length).length).toNat 0
theorem nw_run{Q:QF}(hs:SpOk Q.ss)(hrs:Q.rs.length<=90)(hkk:Q.kk<=100000)(hK:0<=Q.k/\Q.k<=1000)(hne:BA Q.ss Q.rs Q.ss.length≠[]){R:St->Prop}{post:Exit->St->Prop}
  (hR:∀st,Ren 1 st (Cm {Q with kk:=Q.kk+1,rs:=Q.rs++[Fp Q],k:=Q.k-1})->R st):
  T UB 1 (.loop (zC (zC (zB Try.f28) 2) 0)) (Ct (frU Q [] 0 0 s0 false)) (TK UB 1 (andThen R post) (zK (zC (zB Try.f28) 2) 0)):=by
 have hsl:=hs.len;have hfl:=Pr (rs:=Q.rs) (fun s h=>(hs.k s h).2);have e0:BA Q.ss Q.rs 0=[]:=by simp[BA]
 suffices hh:T UB 1 (.loop (zC (zC (zB Try.f28) 2) 0)) (Ct (frU Q (BA Q.ss Q.rs 0) 0 0 s0 false)) (TK UB 1 (andThen R post) (zK (zC (zB Try.f28) 2) 0)) by rw[e0] at hh;exact hh
 refine T.loop (fun i:Nat=>Ct (frU Q (BA Q.ss Q.rs i) i 0 s0 false)) (fun i=>i<=Q.ss.length) (fun i=>Q.ss.length+1-i) 0 (TJ _) ?_;intro i hi;by_cases h:i<Q.ss.length
 .obtain⟨s,hss⟩:∃s,Q.ss[i]?=some s:=⟨_,Tx h⟩;have hm:=TB hss;have hl:=hfl i hi;refine T.path mix (nwl_0 (frU Q (BA Q.ss Q.rs i) i 0 s0 false) (TD (by simp only[frU,iN];omega)) ?_);refine nx_run (by omega) (by omega) hss (by omega) (hs.k s hm) (hs.b s hm) fun st hst=>⟨i+1,?_,h,by omega⟩
  rw[J9 hss];exact hst
 .obtain rfl:i=Q.ss.length:=by omega
  have hl:=hfl Q.ss.length (TI _);unfold Fp at hR;generalize BA Q.ss Q.rs Q.ss.length=F at hl hne hR;have hF1:1<=F.length:=List.length_pos_iff.2 hne;have n1:=A4 Q.L Q.kk F.length (by omega);have r1:=A3 Q.L Q.kk (F.length:Int) (by omega) (by omega);generalize Ae Q.L Q.kk (F.length:Int)=x at n1 r1 hR;have hrl:=BV Q.rs;have hg:(F.map (AV.int .i64))[0+x.toNat]?=some (.int .i64 (F.getD x.toNat 0)):=Ew (by omega);have wk:i64.wrap (Q.k-1)=Q.k-1:=A6 _ (by omega) (by omega);refine T.out mix (nwx_0 {frU Q F Q.ss.length 0 s0 false with x:=x,y:=F.getD x.toNat 0} (TC (by simp only[frU,iN];omega)) n1 r1.1 (by simp only[frU,iN];omega) hg (by simp only[frU,hrl]) (by simp) (by simp only[frU,hrl,Uc];omega) (by simp only[frU,hrl,Uc];omega) ?_);intro st hst;refine hR st ?_;simp only[frU,wk] at hst;have e1:(Q.rs++[F.getD x.toNat 0]).length=(Uu (AV.int .i64) Q.rs).length+[AV.int .i64 (F.getD x.toNat 0)].length:=by simp
  have e2:(Q.rs++[F.getD x.toNat 0]).map (AV.int .i64)=Uu (AV.int .i64) Q.rs++[AV.int .i64 (F.getD x.toNat 0)]:=by simp
  unfold Cm hF nA5 dB;simp only;rw[e1,e2];exact hst
def qA(L:List Int)(kk:Nat)(bs:List AM)(g g2:List (List Int))(ss:List Ao)(k base:Int)(u:ByteArray)(x y z w:Int)(t1 t2 t3 t4:Nat):QA:=⟨L,kk,t1,t2,t3,t4,bs,g,g2,ss,[],k,base,u,x,y,z,w,0,0,0,[],0,0,s0,false,0⟩
def Iw(L:List Int)(kk i:Nat):AM:=⟨I2 i,Ae L (kk+2 * i) 9-4,Ae L (kk+2 * i+1) 9-4⟩
def bsZ(L:List Int)(kk n:Nat):List AM:=(List.range n).map (Iw L kk)
theorem KL(L:List Int)(kk n:Nat):(bsZ L kk n).length=n:=by simp[bsZ]
theorem bsZ_succ(L:List Int)(kk n:Nat):bsZ L kk (n+1)=bsZ L kk n++[Iw L kk n]:=by simp[bsZ,Um]
theorem LessB_zN:Cg zB8 (nA1 [] []):=by
 refine⟨rfl,fun _=>rfl,rfl,TI _,fun i e' h=>?_,fun h=>(by cases h),fun h=>(by cases h)⟩;match i,h with
 | 0,h=>
  simp[nA1] at h;subst h;refine⟨_,rfl,rfl,fun j c' hj=>?_⟩;match j,hj with
  | 0,hj=>simp[AV.cells] at hj;subst hj;exact⟨.nils,rfl,.nilS 3 0⟩
  | 1,hj=>simp[AV.cells] at hj;subst hj;exact⟨.nils,rfl,.nilS 4 0⟩
  | 2,hj=>simp[AV.cells] at hj;subst hj;exact⟨.nils,rfl,.refl _⟩
  | 3,hj=>simp[AV.cells] at hj;subst hj;exact⟨.nils,rfl,.refl _⟩
  | 4,hj=>simp[AV.cells] at hj;subst hj;exact⟨.int .i64 0,rfl,.refl _⟩
  | 5,hj=>simp[AV.cells] at hj;subst hj;exact⟨.int .i64 0,rfl,.refl _⟩
  | 6,hj=>simp[AV.cells] at hj;subst hj;exact⟨.int .i64 0,rfl,.refl _⟩
  | 7,hj=>simp[AV.cells] at hj;subst hj;exact⟨.int .i64 0,rfl,.refl _⟩
  | j+8,hj=>simp[AV.cells] at hj
 | i+1,h=>simp[nA1] at h
theorem ren_z(q:QA)(hb:q.bs=[])(hg:q.g=[]):Ren 1 (FB q) (CU q):=by
 refine Ren.less rfl (by simp[FB,CU]) (fun s=>.refl _) fun b blk' h=>?_
 match b,h with
 | 0,h=>exact .inl ⟨by simp[FB],_,rfl,.inl (by simpa [CU,nth] using h.symm)⟩
 | 1,h=>exact .inl ⟨by simp[FB],_,rfl,.inl (by simpa [CU,nth] using h.symm)⟩
 | 2,h=>simp only[CU,nth,Td] at h;subst h;exact .inl ⟨by simp[FB],_,rfl,.inr (by rw[hb,hg];exact LessB_zN)⟩
 | 3,h=>simp only[CU,nth,Td] at h;subst h;exact .inr ⟨by simp[FB],by simp[bsB,hb],rfl,rfl,rfl⟩
 | 4,h=>simp only[CU,nth,Td] at h;subst h;exact .inr ⟨by simp[FB],by simp[gB,hg,gL],rfl,rfl,rfl⟩
 | b+5,h=>simp[CU,nth] at h
theorem rng0_rep(b:Nat):Uv b []=A7 b 0:=by
 apply List.ext_getElem
 .simp[A7]
 .intro i h1 h2;simp[A7]
theorem Ss(i:Nat):gL (Uv i [])++[UA []]=gL (Uv (i+1) []):=by unfold gL;rw[List.replicate_succ',TM];rfl
theorem n0_run{L:List Int}{kk K:Nat}(hK:1<=K/\K<=24)(hkk:kk<=10000){post:Exit->St->Prop}
  (hT:∀B:Int,B=(K:Int)->T UB 1 (.loop (zC (zB Try.f28) 1)) (D9 (qA L ((Be L K (kk+2 * K)).2+1) (bsZ L kk K) (Be L K (kk+2 * K)).1 [] [] (3+Ae L (Be L K (kk+2 * K)).2 3) B em 0 0 0 0 0 0 0 0)) (TK UB 1 post (zK (zB Try.f28) 1))):
  T UB 1 (.loop (zC (zB Try.f28) 0)) (CU (qA L kk [] [] [] [] (K:Int) 0 em 0 0 0 0 0 0 0 0)) (TK UB 1 post (zK (zB Try.f28) 0)):=by
 suffices hh:T UB 1 (.loop (zC (zB Try.f28) 0)) (CU (qA L (kk+2 * 0) (bsZ L kk 0) (Uv 0 []) [] [] ((K:Int)-((0:Nat):Int)) 0 em 0 0 0 0 0 0 0 0)) (TK UB 1 post (zK (zB Try.f28) 0)) by simpa [bsZ] using hh
 refine T.loop (fun i:Nat=>CU (qA L (kk+2 * i) (bsZ L kk i) (Uv i []) [] [] ((K:Int)-(i:Int)) 0 em 0 0 0 0 0 0 0 0)) (fun i=>i<=K) (fun i=>K+1-i) 0 (TJ _) ?_;intro i hi;have hbl:=KL L kk i;have hbm:((bsZ L kk i).map bA).length=i:=by simp[bsZ]
 have hgl:=BD (Uv i ([]:List Int));rw[TV] at hgl;by_cases h:i<K
 .have n1:=A4 L (kk+2 * i) 9 (by omega);have n2:=A4 L (kk+2 * i+1) 9 (by omega);have r1:=A3 L (kk+2 * i) 9 (by omega) (by omega);have r2:=A3 L (kk+2 * i+1) 9 (by omega) (by omega);have d1:=PD i (by omega);have w1:i64.wrap (Ae L (kk+2 * i) 9-4)=Ae L (kk+2 * i) 9-4:=A6 _ (by omega) (by omega);have w2:i64.wrap (Ae L (kk+2 * i+1) 9-4)=Ae L (kk+2 * i+1) 9-4:=A6 _ (by omega) (by omega);have wk:i64.wrap ((K:Int)-(i:Int)-1)=(K:Int)-((i+1:Nat):Int):=by rw[A6 _ (by omega) (by omega)];omega
  have hsz:(Cc i).size<=2:=by unfold Cc;split<;>exact nL rfl
  have dd:CT UB 56 [] [.int .i64 (iN (bsZ L kk i).length)] [] (.str (Cc i)):=by rw[hbl];exact d1
  refine T.path mix (ntl_0 (qA L (kk+2 * i) (bsZ L kk i) (Uv i []) [] [] ((K:Int)-(i:Int)) 0 (Cc i) (Ae L (kk+2 * i) 9) (Ae L (kk+2 * i+1) 9) 0 0 (kk+2 * i+1) (kk+2 * i+2) 0 0)
   (TD (by simp only[qA];omega)) dd (by show 1+(Cc i).size<=_;omega) n1 n2 (by simp only[qA,hbl,hbm]) (by simp) (by simp only[qA,hbm,Uc];omega) (by simp only[qA,hbm,Uc];omega)
   (by simp only[qA,hgl,TV]) (by simp only[qA,hgl];omega) (by simp only[qA,hgl];omega) ?_)
  intro st hst;refine⟨i+1,?_,h,by omega⟩;simp only[qA,wk,w1,w2] at hst;have e1:(bsZ L kk (i+1)).map bA=(bsZ L kk i).map bA++[AV.agg [AV.str (ByteArray.mk #[98]++Cc i),AV.int .i64 (Ae L (kk+2 * i) 9-4),AV.int .i64 (Ae L (kk+2 * i+1) 9-4)]]:=by rw[bsZ_succ,TM];rfl
  have e2:(bsZ L kk (i+1)).length=((bsZ L kk i).map bA).length+[AV.agg [AV.str (ByteArray.mk #[98]++Cc i),AV.int .i64 (Ae L (kk+2 * i) 9-4),AV.int .i64 (Ae L (kk+2 * i+1) 9-4)]].length:=by rw[KL,hbm];rfl
  have e3:(Uv (i+1) ([]:List Int)).length=(gL (Uv i [])).length+1:=by rw[hgl];simp
  unfold CU nA1 bsB gB;simp only[qA];rw[e1,e2,e3,<-Ss];exact hst
 .obtain rfl:i=K:=by omega
  have hr:=ring_ct (L:=L) (bs:=bsZ L kk i) (by rw[hbl];exact hK) (kk+2 * i) (by omega);rw[hbl] at hr;have hro:=Oz (L:=L) (kk:=kk+2 * i) hK;have n1:=A4 L (Be L i (kk+2 * i)).2 3 (by omega);have r1:=A3 L (Be L i (kk+2 * i)).2 3 (by omega) (by omega);have w3:i64.wrap (3+Ae L (Be L i (kk+2 * i)).2 3)=3+Ae L (Be L i (kk+2 * i)).2 3:=A6 _ (by omega) (by omega);rw[<-rng0_rep] at hr
  have k:=ntx_0 (post:=post) (qA L (kk+2 * i) (bsZ L kk i) (Uv i []) (Be L i (kk+2 * i)).1 [] ((i:Int)-(i:Int)) 0 em (Ae L (Be L i (kk+2 * i)).2 3) 0 0 0 (Be L i (kk+2 * i)).2 ((Be L i (kk+2 * i)).2+1) 0 0)
   (TC (by simp only[qA];omega)) hr n1 (by have:=hT (iN (bsZ L kk i).length) (by simp[iN,hbl]);simp only[qA,w3];exact this)
  exact T.out mix k
def spZ(L:List Int)(b:Nat)(i kk:Nat)(base:Int)(dep:Bool):Ao:=⟨Fj i,dep,Ae L kk b,Ae L (kk+1) b,1+Ae L (kk+2) 3,base⟩
structure SS where
 ss:List Ao
 kk:Nat
 base:Int
def stS(L:List Int)(b:Nat)(p:SS):SS:=if p.ss.length=0 then ⟨p.ss++[spZ L b p.ss.length p.kk p.base true],p.kk+3,p.base+(1+Ae L (p.kk+2) 3)⟩ else if 2<p.ss.length then ⟨p.ss++[spZ L b p.ss.length (p.kk+1) p.base (Ae L p.kk 2==0)],p.kk+4,p.base+(1+Ae L (p.kk+3) 3)⟩ else ⟨p.ss++[spZ L b p.ss.length p.kk p.base false],p.kk+3,p.base+(1+Ae L (p.kk+2) 3)⟩
def itS(L:List Int)(b:Nat)(p:SS):Nat->SS | 0=>p | n+1=>stS L b (itS L b p n)
theorem O8{L:List Int}{b:Nat}{p:SS}:∀n,(itS L b p n).ss.length=p.ss.length+n/\(itS L b p n).kk<=p.kk+4 * n/\p.base<=(itS L b p n).base/\(itS L b p n).base<=p.base+3 * n:=by
 intro n;induction n with
 | zero=>simp[itS]
 | succ n ih=>
  obtain⟨h1,h2,h3,h4⟩:=ih;have r1:=A3 L ((itS L b p n).kk+2) 3 (by omega) (by omega);have r2:=A3 L ((itS L b p n).kk+3) 3 (by omega) (by omega);simp only[itS];unfold stS;split
  .refine⟨by simp;omega,by simp only;omega,by simp only;omega,by simp only;omega⟩
  split
  .refine⟨by simp;omega,by simp only;omega,by simp only;omega,by simp only;omega⟩
  .refine⟨by simp;omega,by simp only;omega,by simp only;omega,by simp only;omega⟩
theorem ssl_eq(ss:List Ao)(s:Ao):(ss++[s]).map sA=ss.map sA++[sA s]/\(ss++[s]).length=(ss.map sA).length+1:=by simp
theorem n1_step{L:List Int}{bs:List AM}(hb:1<=bs.length/\bs.length<=24){g:List (List Int)}{p:SS}(hp:p.ss.length<6)(hkk:p.kk<=100000)(hba:0<=p.base/\p.base<=1000){k:Int}(hk:0<k/\k<=10){R:St->Prop}{post:Exit->St->Prop}
  (hR:∀st,Ren 1 st (B0 (qA L (stS L bs.length p).kk bs g [] (stS L bs.length p).ss (k-1) (stS L bs.length p).base em 0 0 0 0 0 0 0 0))->R st):
  T UB 1 (zC (zB Try.f28) 1) (B0 (qA L p.kk bs g [] p.ss k p.base em 0 0 0 0 0 0 0 0)) (andThen R post):=by
 obtain⟨ss,kk,base⟩:=p;simp only at hp hkk hba;have hsm:(ss.map sA).length=ss.length:=by simp
 have dd:=PD ss.length (by omega);have hsz:(Cc ss.length).size<=2:=by unfold Cc;split<;>exact nL rfl
 have dk:decide (0<k)=true:=TD hk.1;have wk:i64.wrap (k-1)=k-1:=A6 _ (by omega) (by omega);have fsz:1+(Cc ss.length).size<=9223372036854775807:=by omega
 have n0:=A4 L kk bs.length (by omega);have n1:=A4 L (kk+1) bs.length (by omega);have n2:=A4 L (kk+2) bs.length (by omega);have m2:=A4 L (kk+2) 3 (by omega);have m3:=A4 L (kk+3) 3 (by omega);have c0:=A4 L kk 2 (by omega);have r2:=A3 L (kk+2) 3 (by omega) (by omega);have r3:=A3 L (kk+3) 3 (by omega) (by omega);have w2:i64.wrap (1+Ae L (kk+2) 3)=1+Ae L (kk+2) 3:=A6 _ (by omega) (by omega);have w3:i64.wrap (1+Ae L (kk+3) 3)=1+Ae L (kk+3) 3:=A6 _ (by omega) (by omega);have v2:i64.wrap (base+(1+Ae L (kk+2) 3))=base+(1+Ae L (kk+2) 3):=A6 _ (by omega) (by omega);have v3:i64.wrap (base+(1+Ae L (kk+3) 3))=base+(1+Ae L (kk+3) 3):=A6 _ (by omega) (by omega)
 have fin:∀(dep:Bool) (t:Nat) (bb:Int) (s:Ao) st,s.dep=dep->Ren 1 st (St.mk 191 [(0,AV.ptr 0 0 0),(4,AV.ptr 1 0 0),(5,AV.ptr 2 0 0),(8,AV.int i64 bb),(9,AV.int i64 (k-1))] [some (Ag L t),some zB8,
   some (Blk.mk [AV.agg [AV.sl 3 0 bs.length,AV.sl 4 0 g.length,AV.sl 5 0 ((ss.map sA).length+1),AV.nils,AV.int i64 0,AV.int i64 0,AV.int i64 0,AV.int i64 0]] 8 false true none),some (bsB bs),some (gB g),some (Blk.mk (ss.map sA++[sA s]) 6 true true none)])->
   Ren 1 st (B0 (qA L t bs g [] (ss++[s]) (k-1) bb em 0 0 0 0 0 0 0 0)):=fun dep t bb s st _ h=>by
  obtain⟨e1,e2⟩:=ssl_eq ss s;unfold B0 nA2 ssB;simp only[qA];rw[e1,e2];exact h
 unfold stS at hR;simp only at hR;by_cases h0:ss.length=0
 .rw[Tv h0] at hR;refine T.path mix (nul_0 (qA L kk bs g [] ss k base (Cc ss.length) 0 (Ae L kk bs.length) (Ae L (kk+1) bs.length) (Ae L (kk+2) 3) 0 (kk+1) (kk+2) (kk+3)) dk dd fsz (by simp[qA,iN,h0]) n0 n1 m2 (by simp only[qA,hsm]) (by simp) (by simp only[qA,hsm,Uc];omega) (by simp only[qA,hsm,Uc];omega) ?_);intro st hst;simp only[qA,wk,w2,v2] at hst;exact hR st (fin true _ _ (spZ L bs.length ss.length kk base true) st rfl hst)
 .rw[Tw h0] at hR;have hz:(iN ss.length==0)=false:=by simp only[iN,T8,ne_eq];omega
  by_cases h2:2<ss.length
  .rw[Tv h2] at hR;refine T.path mix (nul_1 (qA L kk bs g [] ss k base (Cc ss.length) (Ae L kk 2) (Ae L (kk+1) bs.length) (Ae L (kk+2) bs.length) (Ae L (kk+3) 3) (kk+1) (kk+2) (kk+3) (kk+4)) dk dd fsz hz (TD (by simp only[qA,iN];omega)) c0 n1 n2 m3 (by simp only[qA,hsm]) (by simp) (by simp only[qA,hsm,Uc];omega) (by simp only[qA,hsm,Uc];omega) ?_);intro st hst;simp only[qA,wk,w3,v3] at hst;exact hR st (fin (Ae L kk 2==0) _ _ (spZ L bs.length ss.length (kk+1) base (Ae L kk 2==0)) st rfl hst)
  .rw[Tw h2] at hR;refine T.path mix (nul_2 (qA L kk bs g [] ss k base (Cc ss.length) 0 (Ae L kk bs.length) (Ae L (kk+1) bs.length) (Ae L (kk+2) 3) 0 (kk+1) (kk+2) (kk+3)) dk dd fsz hz (TC (by simp only[qA,iN];omega)) n0 n1 m2 (by simp only[qA,hsm]) (by simp) (by simp only[qA,hsm,Uc];omega) (by simp only[qA,hsm,Uc];omega) ?_);intro st hst;simp only[qA,wk,w2,v2] at hst;exact hR st (fin false _ _ (spZ L bs.length ss.length kk base false) st rfl hst)
theorem LessB_zS{bs:List AM}{g:List (List Int)}:Cg (nA1 bs g) (nA2 bs g []):=by
 refine⟨rfl,fun _=>rfl,rfl,TI _,fun i e' h=>?_,fun h=>(by cases h),fun h=>(by cases h)⟩;match i,h with
 | 0,h=>
  simp[nA2] at h;subst h;refine⟨_,rfl,rfl,fun j c' hj=>?_⟩;match j,hj with
  | 0,hj=>simp[AV.cells] at hj;subst hj;exact⟨_,rfl,.refl _⟩
  | 1,hj=>simp[AV.cells] at hj;subst hj;exact⟨_,rfl,.refl _⟩
  | 2,hj=>simp[AV.cells] at hj;subst hj;exact⟨.nils,rfl,.nilS 5 0⟩
  | 3,hj=>simp[AV.cells] at hj;subst hj;exact⟨_,rfl,.refl _⟩
  | 4,hj=>simp[AV.cells] at hj;subst hj;exact⟨_,rfl,.refl _⟩
  | 5,hj=>simp[AV.cells] at hj;subst hj;exact⟨_,rfl,.refl _⟩
  | 6,hj=>simp[AV.cells] at hj;subst hj;exact⟨_,rfl,.refl _⟩
  | 7,hj=>simp[AV.cells] at hj;subst hj;exact⟨_,rfl,.refl _⟩
  | j+8,hj=>simp[AV.cells] at hj
 | i+1,h=>simp[nA2] at h
theorem ren_s(q:QA)(hs:q.ss=[]):Ren 1 (D9 q) (B0 q):=by
 refine Ren.less rfl (by simp[D9,B0]) (fun s=>.refl _) fun b blk' h=>?_
 match b,h with
 | 0,h=>exact .inl ⟨by simp[D9],_,rfl,.inl (by simpa [B0,nth] using h.symm)⟩
 | 1,h=>exact .inl ⟨by simp[D9],_,rfl,.inl (by simpa [B0,nth] using h.symm)⟩
 | 2,h=>simp only[B0,nth,Td] at h;subst h;exact .inl ⟨by simp[D9],_,rfl,.inr (by rw[hs];exact LessB_zS)⟩
 | 3,h=>exact .inl ⟨by simp[D9],_,rfl,.inl (by simpa [B0,nth] using h.symm)⟩
 | 4,h=>exact .inl ⟨by simp[D9],_,rfl,.inl (by simpa [B0,nth] using h.symm)⟩
 | 5,h=>simp only[B0,nth,Td] at h;subst h;exact .inr ⟨by simp[D9],by simp[ssB,hs],rfl,rfl,rfl⟩
 | b+6,h=>simp[B0,nth] at h
theorem n1_run{L:List Int}{bs:List AM}(hb:1<=bs.length/\bs.length<=24){g:List (List Int)}{kk K:Nat}(hkk:kk<=90000)(hK:3<=K/\K<=5){base:Int}(hba:0<=base/\base<=900){post:Exit->St->Prop}
  (hX:T UB 1 (zC (zB Try.f28) 1) (B0 (qA L (itS L bs.length ⟨[],kk,base⟩ K).kk bs g [] (itS L bs.length ⟨[],kk,base⟩ K).ss 0 (itS L bs.length ⟨[],kk,base⟩ K).base em 0 0 0 0 0 0 0 0)) (andThen (fun _=>False) (TK UB 1 post (zK (zB Try.f28) 1)))):
  T UB 1 (.loop (zC (zB Try.f28) 1)) (D9 (qA L kk bs g [] [] (K:Int) base em 0 0 0 0 0 0 0 0)) (TK UB 1 post (zK (zB Try.f28) 1)):=by
 refine T.less (ren_s _ rfl) ?_
 suffices hh:T UB 1 (.loop (zC (zB Try.f28) 1)) (B0 (qA L (itS L bs.length ⟨[],kk,base⟩ 0).kk bs g [] (itS L bs.length ⟨[],kk,base⟩ 0).ss ((K:Int)-((0:Nat):Int)) (itS L bs.length ⟨[],kk,base⟩ 0).base em 0 0 0 0 0 0 0 0)) (TK UB 1 post (zK (zB Try.f28) 1)) by simpa [itS] using hh
 refine T.loop (fun m:Nat=>B0 (qA L (itS L bs.length ⟨[],kk,base⟩ m).kk bs g [] (itS L bs.length ⟨[],kk,base⟩ m).ss ((K:Int)-(m:Int)) (itS L bs.length ⟨[],kk,base⟩ m).base em 0 0 0 0 0 0 0 0)) (fun m=>m<=K) (fun m=>K+1-m) 0 (TJ _) ?_;intro m hm;obtain⟨h1,h2,h3,h4⟩:=O8 (L:=L) (b:=bs.length) (p:=⟨[],kk,base⟩) m;simp only[Ue,TP] at h1 h2 h3 h4;by_cases h:m<K
 .refine n1_step hb (by omega) (by omega) (by omega) (by omega) fun st hst=>⟨m+1,?_,h,by omega⟩
  have e:(K:Int)-(m:Int)-1=(K:Int)-((m+1:Nat):Int):=by omega
  rw[e] at hst;exact hst
 .obtain rfl:m=K:=by omega
  have e:(m:Int)-(m:Int)=0:=by omega
  rw[e];exact hX.mono fun ex st hp=>by
   cases ex with
   | normal=>exact hp.elim
   | _=>exact hp
def Ea(q:QF):St:={n:=Try.f28.ntmps,fr:=[(0,.ptr 0 0 0),(4,.ptr 1 0 0),(5,.ptr 2 0 0),(12,.ptr 6 0 0),(14,.int .i64 q.k)],hp:=[some (Ag q.L q.kk),some zB8,some (nA3 q.bs q.g q.ss q.cx q.cy q.cz q.cw),some (bsB q.bs),some (gB q.g),some (ssB q.ss),some (capB q.cg q.cs q.cc)]}
theorem LessB_zR{bs:List AM}{g:List (List Int)}{ss:List Ao}{x y z w:Int}:Cg (nA3 bs g ss x y z w) (nA5 bs g ss [] x y z w):=by
 refine⟨rfl,fun _=>rfl,rfl,TI _,fun i e' h=>?_,fun h=>(by cases h),fun h=>(by cases h)⟩;match i,h with
 | 0,h=>
  simp[nA5] at h;subst h;refine⟨_,rfl,rfl,fun j c' hj=>?_⟩;match j,hj with
  | 0,hj=>simp[AV.cells] at hj;subst hj;exact⟨_,rfl,.refl _⟩
  | 1,hj=>simp[AV.cells] at hj;subst hj;exact⟨_,rfl,.refl _⟩
  | 2,hj=>simp[AV.cells] at hj;subst hj;exact⟨_,rfl,.refl _⟩
  | 3,hj=>simp[AV.cells] at hj;subst hj;exact⟨.nils,rfl,.nilS 7 0⟩
  | 4,hj=>simp[AV.cells] at hj;subst hj;exact⟨_,rfl,.refl _⟩
  | 5,hj=>simp[AV.cells] at hj;subst hj;exact⟨_,rfl,.refl _⟩
  | 6,hj=>simp[AV.cells] at hj;subst hj;exact⟨_,rfl,.refl _⟩
  | 7,hj=>simp[AV.cells] at hj;subst hj;exact⟨_,rfl,.refl _⟩
  | j+8,hj=>simp[AV.cells] at hj
 | i+1,h=>simp[nA5] at h
theorem ren_r(q:QF)(hs:q.rs=[]):Ren 1 (Ea q) (Cm q):=by
 refine Ren.less rfl (by simp[Ea,Cm,hF]) (fun s=>.refl _) fun b blk' h=>?_
 match b,h with
 | 0,h=>exact .inl ⟨by simp[Ea],_,rfl,.inl (by simpa [Cm,hF,nth] using h.symm)⟩
 | 1,h=>exact .inl ⟨by simp[Ea],_,rfl,.inl (by simpa [Cm,hF,nth] using h.symm)⟩
 | 2,h=>simp only[Cm,hF,nth,Td] at h;subst h;exact .inl ⟨by simp[Ea],_,rfl,.inr (by rw[hs];exact LessB_zR)⟩
 | 3,h=>exact .inl ⟨by simp[Ea],_,rfl,.inl (by simpa [Cm,hF,nth] using h.symm)⟩
 | 4,h=>exact .inl ⟨by simp[Ea],_,rfl,.inl (by simpa [Cm,hF,nth] using h.symm)⟩
 | 5,h=>exact .inl ⟨by simp[Ea],_,rfl,.inl (by simpa [Cm,hF,nth] using h.symm)⟩
 | 6,h=>exact .inl ⟨by simp[Ea],_,rfl,.inl (by simpa [Cm,hF,nth] using h.symm)⟩
 | 7,h=>simp only[Cm,hF,nth,Td] at h;subst h;exact .inr ⟨by simp[Ea],by simp[dB,hs],rfl,rfl,rfl⟩
 | b+8,h=>simp[Cm,hF,nth] at h
theorem S4{n:Aa}(hrw:Rows n.nx)(hv:AB n)(hrs:n.rs=[]):CT UB 58 [] [AV.agg [UA (Uu bA n.bs),UA (gL n.nx),UA (Uu sA n.ss),AV.nils,AV.int i64 n.q,AV.int i64 n.a,AV.int i64 n.d,AV.int i64 n.p]] []
  (AV.tup [AV.agg [AV.int i64 (iN (Bw n).length),AV.any,AV.int i64 (B6 n),AV.int i64 (DM (Bw n) (B6 n))],AV.int i64 0]):=by
 have h:=fleet_ct hrw hv;have h2:=h.less (res':=AV.tup [AV.agg [AV.int i64 (iN (Bw n).length),AV.any,AV.int i64 (B6 n),AV.int i64 (DM (Bw n) (B6 n))],AV.int i64 0]) ?_
 .refine h2.lessArgs rfl fun i a' ha=>?_
  match i,ha with
  | 0,ha=>
   simp at ha;subst ha;refine⟨_,rfl,Bj.agg rfl fun j c' hj=>?_⟩;match j,hj with
   | 0,hj=>simp at hj;subst hj;exact⟨_,rfl,.refl _⟩
   | 1,hj=>simp at hj;subst hj;exact⟨_,rfl,.refl _⟩
   | 2,hj=>simp at hj;subst hj;exact⟨_,rfl,.refl _⟩
   | 3,hj=>simp at hj;subst hj;rw[hrs];exact⟨.nils,rfl,.nilL⟩
   | 4,hj=>simp at hj;subst hj;exact⟨_,rfl,.refl _⟩
   | 5,hj=>simp at hj;subst hj;exact⟨_,rfl,.refl _⟩
   | 6,hj=>simp at hj;subst hj;exact⟨_,rfl,.refl _⟩
   | 7,hj=>simp at hj;subst hj;exact⟨_,rfl,.refl _⟩
   | j+8,hj=>simp at hj
  | i+1,ha=>simp at ha
 .intro φ A w v hv;cases hv with
  | imm _ _ h=>cases h
  | tup cs vs hl hh=>
   refine .tup _ vs (by simpa using hl) fun i c u hc hu=>?_
   match i,hc with
   | 0,hc=>
    simp at hc;subst hc;refine(Bj.agg (cs':=[.int .i64 (iN (Bw n).length),.any,.int .i64 (B6 n),.int .i64 (DM (Bw n) (B6 n))]) rfl fun j c' hj=>?_:Bj (AV.agg [.int .i64 (iN (Bw n).length),lI (Bw n),.int .i64 (B6 n),.int .i64 (DM (Bw n) (B6 n))]) _).2 _ _ _ _ (hh 0 _ u rfl hu);match j,hj with
    | 0,hj=>simp at hj;subst hj;exact⟨_,rfl,.refl _⟩
    | 1,hj=>simp at hj;subst hj;exact⟨lI (Bw n),rfl,.any rfl⟩
    | 2,hj=>simp at hj;subst hj;exact⟨_,rfl,.refl _⟩
    | 3,hj=>simp at hj;subst hj;exact⟨_,rfl,.refl _⟩
    | j+4,hj=>simp at hj
   | 1,hc=>exact hh 1 c u (by simpa using hc) hu
   | i+2,hc=>simp at hc
theorem n1_exit{L:List Int}{bs:List AM}{g:List (List Int)}{ss:List Ao}{kk:Nat}{base:Int}{x y z w v cg cs cc:Int}(hx:0<=x/\x<=10)(hw:0<=w/\w<=10)(hv:0<=v/\v<=10)
  (n0:CT UB 15 [some (Ag L kk)] [.ptr 0 0 0,.int .i64 4] [some (Ag L (kk+1))] (.int .i64 x)) (n1:CT UB 15 [some (Ag L (kk+1))] [.ptr 0 0 0,.int .i64 3] [some (Ag L (kk+2))] (.int .i64 y))
  (n2:CT UB 15 [some (Ag L (kk+2))] [.ptr 0 0 0,.int .i64 3] [some (Ag L (kk+3))] (.int .i64 z)) (n3:CT UB 15 [some (Ag L (kk+3))] [.ptr 0 0 0,.int .i64 8] [some (Ag L (kk+4))] (.int .i64 w))
  (n4:CT UB 15 [some (Ag L (kk+4))] [.ptr 0 0 0,.int .i64 3] [some (Ag L (kk+5))] (.int .i64 v))
  (fl:CT UB 58 [] [AV.agg [UA (Uu bA bs),UA (gL g),UA (Uu sA ss),AV.nils,AV.int i64 (1+x),AV.int i64 y,AV.int i64 z,AV.int i64 (1+w)]] [] (AV.tup [AV.agg [AV.int i64 cg,AV.any,AV.int i64 cs,AV.int i64 cc],AV.int i64 0]))
  {R:St->Prop} {post:Exit->St->Prop}
  (hT:T UB 1 (.loop (zC (zB Try.f28) 2)) (Cm ⟨L,kk+5,bs,g,ss,[],1+x,y,z,1+w,cg,cs,cc,1+v,[],0,0,s0,false,0,0⟩) (TK UB 1 post (zK (zB Try.f28) 2))):
  T UB 1 (zC (zB Try.f28) 1) (B0 (qA L kk bs g [] ss 0 base em 0 0 0 0 0 0 0 0)) (andThen R (TK UB 1 post (zK (zB Try.f28) 1))):=by
 have w0:i64.wrap (1+x)=1+x:=A6 _ (by omega) (by omega);have w3:i64.wrap (1+w)=1+w:=A6 _ (by omega) (by omega);have w4:i64.wrap (1+v)=1+v:=A6 _ (by omega) (by omega);have hbl:bs.length=(bs.map bA).length:=by simp
 have hgl:g.length=(gL g).length:=(BD g).symm;have hsl:ss.length=(ss.map sA).length:=by simp
 have k:=nux_0 (post:=post) ⟨L,kk,kk+1,kk+2,kk+3,kk+4,bs,g,[],ss,[],0,base,em,x,y,z,w,cg,cs,cc,[],0,0,s0,false,v⟩ (by simp) n0 n1 n2 n3 hbl hgl hsl (by simp only[w0,w3];exact fl) n4
  (by simp only[w0,w3,w4];exact T.less (ren_r ⟨L,kk+5,bs,g,ss,[],1+x,y,z,1+w,cg,cs,cc,1+v,[],0,0,s0,false,0,0⟩ rfl) hT)
 exact T.out mix k
structure SpI(b:Nat)(b0:Int)(p:SS):Prop where
 base:p.base=b0+(p.ss.map (·.k)).sum
 el:∀(i:Nat) (s:Ao),p.ss[i]?=some s->s.nm=Fj i/\(i=0->s.dep=true)/\(i=1\/i=2->s.dep=false)/\(0<=s.i/\s.i<(b:Int))/\(0<=s.o/\s.o<(b:Int))/\(1<=s.k/\s.k<=3)/\s.b=b0+((p.ss.take i).map (·.k)).sum
theorem SpI.push{b:Nat}{b0:Int}{p:SS}(h:SpI b b0 p){s:Ao}{kk:Nat}(h1:s.nm=Fj p.ss.length)(h2:p.ss.length=0->s.dep=true)(h3:p.ss.length=1\/p.ss.length=2->s.dep=false)
  (h4:0<=s.i/\s.i<(b:Int)) (h5:0<=s.o/\s.o<(b:Int)) (h6:1<=s.k/\s.k<=3) (h7:s.b=p.base):SpI b b0 ⟨p.ss++[s],kk,p.base+s.k⟩:=by
 refine⟨by simp[h.base,List.sum_append];omega,fun i t ht=>?_⟩;simp only at ht ⊢
 rw[T7] at ht;split at ht
 .rename_i hi;have:=h.el i t ht;rw[List.take_append_of_le_length (by omega)];exact this
 .rename_i hi;have hil:i=p.ss.length:=by
   by_cases e:i=p.ss.length
   .exact e
   .rw[TX (by simp;omega)] at ht;cases ht
  subst hil;simp at ht;subst ht;refine⟨h1,h2,h3,h4,h5,h6,?_⟩;rw[List.take_append_of_le_length (TI _),List.take_length,h7,h.base]
theorem itS_ok{L:List Int}{b:Nat}(hb:1<=b/\b<=24){kk:Nat}{b0:Int}:∀n,SpI b b0 (itS L b ⟨[],kk,b0⟩ n):=by
 intro n;induction n with
 | zero=>exact⟨by simp[itS],fun i s h=>by simp[itS] at h⟩
 | succ n ih=>
  have r:=fun k=>A3 L k (b:Int) (by omega) (by omega)
  have r3:=fun k=>A3 L k 3 (by omega) (by omega)
  simp only[itS];unfold stS;split
  .rename_i h0;exact ih.push (s:=spZ L b _ _ _ true) rfl (fun _=>rfl) (fun h=>by omega) (r _) (r _) ⟨by have:=r3 ((itS L b ⟨[],kk,b0⟩ n).kk+2);simp only[spZ];omega,by have:=r3 ((itS L b ⟨[],kk,b0⟩ n).kk+2);simp only[spZ];omega⟩ rfl
  split
  .rename_i h0 h2;exact ih.push (s:=spZ L b _ _ _ _) rfl (fun h=>by omega) (fun h=>by omega) (r _) (r _) ⟨by have:=r3 ((itS L b ⟨[],kk,b0⟩ n).kk+1+2);simp only[spZ];omega,by have:=r3 ((itS L b ⟨[],kk,b0⟩ n).kk+1+2);simp only[spZ];omega⟩ rfl
  .rename_i h0 h2;exact ih.push (s:=spZ L b _ _ _ false) rfl (fun h=>by omega) (fun _=>rfl) (r _) (r _) ⟨by have:=r3 ((itS L b ⟨[],kk,b0⟩ n).kk+2);simp only[spZ];omega,by have:=r3 ((itS L b ⟨[],kk,b0⟩ n).kk+2);simp only[spZ];omega⟩ rfl
theorem KT{L:List Int}{kk K i:Nat}{b:AM}(h:(bsZ L kk K)[i]?=some b):i<K/\b=Iw L kk i:=by
 unfold bsZ at h;rw[TH] at h;cases hr:(List.range K)[i]? with
 | none=>rw[hr] at h;cases h
 | some j=>rw[hr] at h;obtain⟨h1,h2⟩:=Tz.1 hr;simp at h1 h2;simp at h;subst h2;exact⟨h1,h.symm⟩
theorem row_ok{r:List Int}{n v:Nat}(hl:r.length<=4)(hp:r.Pairwise (· < ·))(hr:∀w∈r,0<=w/\w<(n:Int)/\w≠(v:Int)):nxB r v n=true:=by
 rw[NZ];have:fnd (AK r n v) 0 r.length=none:=by
  cases he:fnd (AK r n v) 0 r.length with
  | none=>rfl
  | some i=>
   exfalso;obtain⟨h1,_,h3⟩:=D0 he;have hi:i<r.length:=by omega
   have hm:r.getD i 0∈r:=by rw[Ty,Tx hi];exact T5 hi
   obtain⟨g1,g2,g3⟩:=hr _ hm;unfold AK at h1;simp only[T9,decide_eq_true_eq,TF,beq_iff_eq] at h1;rcases h1 with h1 | h1 | h1 | ⟨h1,h2⟩
   .omega
   .omega
   .exact g3 h1
   .have:=List.pairwise_iff_getElem.1 hp (i-1) i (by omega) hi (by omega);rw[Ty,Ty,Tx hi,Tx (by omega:i-1<r.length)] at h2;simp at h2;omega
 rw[this];simpa using hl
theorem RB{L:List Int}{kk K:Nat}(hK:1<=K/\K<=24){g:List (List Int)}(hg:GI K 4 g){p:SS}(hp:SpI K (K:Int) p)(hl:3<=p.ss.length/\p.ss.length<=5){x y z w:Int}(hx:0<=x/\x<4)(hy:0<=y/\y<3)(hz:0<=z/\z<3)(hw:0<=w/\w<8):
  AB ⟨bsZ L kk K,g,p.ss,[],1+x,y,z,1+w⟩:=by
 have hbl:=KL L kk K;have hT:∀(i:Nat) (s:Ao),p.ss[i]?=some s->C8 ⟨bsZ L kk K,g,p.ss,[],1+x,y,z,1+w⟩ i s:=fun i s h=>by obtain⟨_,_,_,h4,h5,h6,h7⟩:=hp.el i s h;exact⟨by simp only[hbl];exact h4,by simp only[hbl];exact h5,by omega,by unfold Az;simp only[hbl];exact h7⟩
 have hnm:∀(i:Nat) (s:Ao),p.ss[i]?=some s->s.nm=Fj i/\i<6:=fun i s h=>⟨(hp.el i s h).1,by have:=(Tz.1 h).1;omega⟩
 refine⟨Bi.2 (by simp only[hbl];omega),by simp only[hbl];exact hg.len,by simp only;omega,by simp,?_,fun i b h=>?_,fun i s h=>Oi ?_ (hT i s h),?_,?_,fun i c h=>by simp at h⟩
 .unfold A9;simp only[TF,Bi];omega
 .obtain⟨h1,rfl⟩:=KT h;have r1:=A3 L (kk+2 * i) 9 (by omega) (by omega);have r2:=A3 L (kk+2 * i+1) 9 (by omega) (by omega);obtain⟨g1,g2,g3⟩:=hg.row i h1;exact⟨nmBk_ok i (by omega),Bi.2 (by simp only[Iw];omega),Bi.2 (by simp only[Iw];omega),by simp only[hbl];exact row_ok g1 g2 g3⟩
 .obtain⟨e,hi⟩:=hnm i s h;rw[e];exact nmSp_ok i hi
 .unfold B1;rw[List.nodup_append];refine⟨?_,?_,?_⟩
  .rw[List.nodup_iff_pairwise_ne,List.pairwise_iff_getElem];intro a b ha hb hab he;simp only[List.getElem_map] at he;have ga:=KT (Tx (l:=bsZ L kk K) (i:=a) (by simpa using ha));have gb:=KT (Tx (l:=bsZ L kk K) (i:=b) (by simpa using hb));rw[ga.2,gb.2] at he;have:=nmBk_inj a (by omega) b (by omega) he;omega
  .rw[List.nodup_iff_pairwise_ne,List.pairwise_iff_getElem];intro a b ha hb hab he;simp only[List.getElem_map] at he;obtain⟨ga,ha6⟩:=hnm a _ (Tx (by simpa using ha));obtain⟨gb,hb6⟩:=hnm b _ (Tx (by simpa using hb));rw[ga,gb] at he;have:=nmSp_inj a ha6 b hb6 he;omega
  .intro a ha b hb he;obtain⟨s,hs,rfl⟩:=T4.1 ha;obtain⟨t,ht,rfl⟩:=T4.1 hb;obtain⟨i,hi⟩:=List.mem_iff_getElem?.1 hs;obtain⟨j,hj⟩:=List.mem_iff_getElem?.1 ht;obtain⟨h1,rfl⟩:=KT hi;obtain⟨e,hj6⟩:=hnm j t hj;rw[e] at he;exact nm_dis i (by omega) j hj6 he
 .obtain⟨s,hs⟩:∃s,p.ss[0]?=some s:=⟨_,Tx (by omega)⟩;obtain⟨_,h2,_,_,_,h6,_⟩:=hp.el 0 s hs;refine⟨s.b,s,?_,h2 rfl,by omega,by omega⟩;rw[List.take_length];exact TB hs
theorem MV(c i:Nat):(Uv c false).getD i false=false:=by rw[Ty,TZ];split<;>rfl
theorem RX(c:Nat)(s:Ao):F5 (Uv c false) s=true:=by
 unfold F5;rw[MV,MV];have:fnd (fun j=>(Uv c false).getD (s.b+(j:Int)).toNat false) 0 s.k.toNat=none:=by
  cases he:fnd (fun j=>(Uv c false).getD (s.b+(j:Int)).toNat false) 0 s.k.toNat with
  | none=>rfl
  | some i=>have:=(D0 he).1;rw[MV] at this;cases this
 rw[this];rfl
theorem hasZ_nil(x:Int):Ay [] x=false:=by
 cases h:Ay [] x with
 | false=>rfl
 | true=>have:=G1.1 h;simp at this
theorem Sy{s:Ao}(hk:0<=s.k):((CJ s []).length:Int)=if s.dep=true then s.k else 0:=by
 unfold CJ Bq;split
 .rw[List.filter_eq_self.2 (fun x _=>by rw[hasZ_nil];rfl)];simp;omega
 .rfl
theorem P9{n:Aa}(hv:AB n)(c:Nat):∀i,i<=n.ss.length->Bk n (Uv c false) i=((BA n.ss [] i).length:Int):=by
 intro i;induction i with
 | zero=>intro _;simp[Bk,BA]
 | succ i ih=>intro h;obtain⟨s,hs⟩:∃s,n.ss[i]?=some s:=⟨_,Tx h⟩;rw[Lj hs,J9 hs,TU,ih (by omega),RX,Bool.and_true];have hk:=(hv.goodT i s hs).hk;have:=Sy (s:=s) (by omega);omega
theorem HX{ss:List Ao}{rs:List Int}{x:Int}:∀i,i<=ss.length->(x∈BA ss rs i↔(∃s∈ss.take i,s.dep=true/\s.b<=x/\x<s.b+s.k)/\x∉rs):=by
 intro i hi;unfold BA;rw[List.mem_flatMap];constructor
 .rintro⟨s,hs,hx⟩
  unfold CJ at hx;split at hx
  .rename_i hd;unfold Bq at hx;rw[List.mem_filter] at hx;obtain⟨h1,h2⟩:=hx;obtain⟨t,ht,rfl⟩:=T4.1 h1;have:=Uo.1 ht;refine⟨⟨s,hs,hd,by omega,by omega⟩,fun hm=>?_⟩;rw[G1.2 hm] at h2;cases h2
  .cases hx
 .rintro⟨⟨s,hs,hd,h1,h2⟩,hn⟩
  refine⟨s,hs,?_⟩;unfold CJ Bq;rw[Tv hd,List.mem_filter];refine⟨T4.2 ⟨(x-s.b).toNat,Uo.2 (by omega),by omega⟩,?_⟩;cases hh:Ay rs x with
  | false=>rfl
  | true=>exact absurd (G1.1 hh) hn
theorem nodup_le:∀{l m:List Int},l.Nodup->(∀x∈l,x∈m)->l.length<=m.length:=by
 intro l;induction l with
 | nil=>intro m _ _;simp
 | cons a l ih=>
  intro m hn hs;rw[List.nodup_cons] at hn;have ha:=hs a (by simp);have:=ih (m:=m.erase a) hn.2 fun x hx=>(List.mem_erase_of_ne (a:=x) (b:=a) (fun e=>hn.1 (by rw[<-e];exact hx))).2 (hs x (TR _ hx))
  rw[List.length_erase_of_mem ha] at this;have:0<m.length:=Us ha;simp only[Ud];omega
theorem Sz{n:Aa}(hv:AB n):∀i,i<=n.ss.length->(BA n.ss [] i).Nodup:=by
 intro i;induction i with
 | zero=>intro _;simp[BA]
 | succ i ih=>
  intro h;obtain⟨s,hs⟩:∃s,n.ss[i]?=some s:=⟨_,Tx h⟩;rw[J9 hs,List.nodup_append];refine⟨ih (by omega),?_,fun a ha b hb e=>?_⟩
  .unfold CJ Bq;split
   .refine List.Pairwise.filter _ ?_;rw[List.pairwise_map];refine List.Pairwise.imp ?_ (List.nodup_iff_pairwise_ne.1 List.nodup_range);intro x y hxy e;omega
   .simp
  .subst e;obtain⟨⟨t,ht,_,h1,h2⟩,_⟩:=(HX i (by omega)).1 ha;obtain⟨j,hj⟩:=List.mem_iff_getElem?.1 ht;have hji:j<i:=by have:=(Tz.1 hj).1;simp at this;omega
   have hjt:n.ss[j]?=some t:=by rw[TT,Tv hji] at hj;exact hj
   have g1:=(hv.goodT j t hjt).hb;have g2:=(hv.goodT i s hs).hb;have hm:=Gs hv (i:=j+1) (j:=i) (by omega) (by omega);rw[Dm hjt] at hm;unfold CJ Bq at hb;split at hb
   .rw[List.mem_filter] at hb;obtain⟨t',_,e'⟩:=T4.1 hb.1;omega
   .cases hb
theorem Qm{n:Aa}(hv:AB n)(c:Nat){rs:List Int}(h:(rs.length:Int)<Bk n (Uv c false) n.ss.length):BA n.ss rs n.ss.length≠[]:=by
 intro he;have h1:=P9 hv c n.ss.length (TI _);have h2:=nodup_le (Sz hv n.ss.length (TI _)) (m:=rs) fun x hx=>by
  obtain⟨g1,_⟩:=(HX _ (TI _)).1 hx;by_cases hm:x∈rs
  .exact hm
  .have:=(HX (rs:=rs) _ (TI _)).2 ⟨g1,hm⟩;rw[he] at this;cases this
 omega
theorem cap_ok{n:Aa}(hrw:Rows n.nx)(hv:AB n):1<=DM (Bw n) (B6 n)/\DM (Bw n) (B6 n)<=B6 n:=by
 have hs1:1<=B6 n:=by unfold B6;rw[P9 hv _ _ (TI _)];obtain⟨x,s,hs,hd,h1,h2⟩:=hv.dep;have hm:x∈BA n.ss [] n.ss.length:=(HX _ (TI _)).2 ⟨⟨s,hs,hd,h1,h2⟩,by simp⟩;have:=Us hm;omega
 have hg2:(Bw n).length≠1:=by
  intro he;unfold Bw IU at he;rw[Tv hv.chk] at he;obtain⟨hg,_⟩:=IV hrw hv.chk;obtain⟨⟨_,h2,h3⟩,_⟩:=S3 hg (by intro e;rw[e] at he;simp at he);generalize Ce n.nx (Uv n.bs.length false) n.nx.length=o at he h2 h3;have hm:o.getD 0 0∈o:=by rw[Ty,Tx (by omega:0<o.length)];exact T5 (by omega)
  have h4:=h3 0 (by omega);rw[he] at h4;obtain⟨g1,g2,_⟩:=h2 _ hm;have:=(hg.row (o.getD 0 0).toNat (by omega)).2 (o.getD 0 0) (by simpa using h4);omega
 unfold DM;split
 .split<;>omega
 .omega
def nxR(Q:QF):QF:={Q with kk:=Q.kk+1,rs:=Q.rs++[Fp Q],k:=Q.k-1}
def itR(Q:QF):Nat->QF | 0=>Q | n+1=>nxR (itR Q n)
def CI(Q:QF)(rs:List Int):Aa:=⟨Q.bs,Q.g,Q.ss,rs,Q.cx,Q.cy,Q.cz,Q.cw⟩
def Fv(n:Aa)(rs:List Int):Prop:=∀(i:Nat) (c:Int),rs[i]?=some c->AW n n.ss.length c/\c∉rs.take i
theorem newR_ok{Q:QF}(hne:BA Q.ss Q.rs Q.ss.length≠[])(hl:(BA Q.ss Q.rs Q.ss.length).length<=1000):(∃s∈Q.ss,s.dep=true/\s.b<=Fp Q/\Fp Q<s.b+s.k)/\Fp Q∉Q.rs:=by
 have hp:=List.length_pos_iff.2 hne;have r:=A3 Q.L Q.kk ((BA Q.ss Q.rs Q.ss.length).length:Int) (by omega) (by omega);have hm:Fp Q∈BA Q.ss Q.rs Q.ss.length:=by unfold Fp;rw[Ty,Tx (by omega)];exact T5 _
 obtain⟨⟨s,hs,h⟩,h2⟩:=(HX _ (TI _)).1 hm;rw[List.take_length] at hs;exact⟨⟨s,hs,h⟩,h2⟩
theorem Fv.push{n:Aa}{rs:List Int}(h:Fv n rs){c:Int}(h1:AW n n.ss.length c)(h2:c∉rs):Fv n (rs++[c]):=by
 intro i d hd;rw[T7] at hd;split at hd
 .rename_i hi;rw[List.take_append_of_le_length (by omega)];exact h i d hd
 .rename_i hi;have hil:i=rs.length:=by
   by_cases e:i=rs.length
   .exact e
   .rw[TX (by simp;omega)] at hd;cases hd
  subst hil;simp at hd;subst hd;rw[List.take_append_of_le_length (TI _),List.take_length];exact⟨h1,h2⟩
theorem AB.robots{n:Aa}(h:AB n){rs:List Int}(hr:Fv n rs)(hl:rs.length<=8):AB {n with rs:=rs}:=⟨h.nb,h.nx,h.ns,hl,(by have:=h.cfg;unfold A9 at this ⊢;exact this),fun i b hb=>⟨(h.blk i b hb).nm,(h.blk i b hb).x,(h.blk i b hb).y,(h.blk i b hb).nx⟩,fun i s hs=>⟨(h.spu i s hs).nm,(h.spu i s hs).hi,(h.spu i s hs).ho,(h.spu i s hs).hk,(h.spu i s hs).hb⟩,h.nod,h.dep,hr⟩
theorem OO(Q:QF):∀m,itR Q m={Q with kk:=Q.kk+m,rs:=(itR Q m).rs,k:=Q.k-(m:Int)}:=by
 intro m;induction m with
 | zero=>simp[itR]
 | succ m ih=>
  have e:itR Q (m+1)=nxR (itR Q m):=rfl;rw[e];generalize itR Q m=R at ih ⊢
  rw[ih];simp only[nxR];congr 1;omega
theorem Oo{Q:QF}(hv:AB (CI Q []))(hrs:Q.rs=[]){c:Nat}{M:Nat}(hM:(M:Int)<=Bk (CI Q []) (Uv c false) Q.ss.length):∀m,m<=M->(itR Q m).rs.length=m/\Fv (CI Q []) (itR Q m).rs:=by
 intro m;induction m with
 | zero=>intro _;simp only[itR];rw[hrs];exact⟨rfl,fun i c h=>by simp at h⟩
 | succ m ih=>
  intro hm;obtain⟨h1,h2⟩:=ih (by omega);have hne:=Qm hv c (rs:=(itR Q m).rs) (by rw[h1];exact Int.lt_of_lt_of_le (by omega) hM);have hfl:=Pr (ss:=Q.ss) (rs:=(itR Q m).rs) (fun s hs=>by obtain⟨j,hj⟩:=List.mem_iff_getElem?.1 hs;exact(hv.goodT j s hj).hk.2) Q.ss.length (TI _);have hns:=hv.ns;simp only[CI] at hns hne;have e:=OO Q m;have hss:(itR Q m).ss=Q.ss:=by rw[e]
  have ok:=newR_ok (Q:=itR Q m) (by rw[hss];exact hne) (by rw[hss];omega);rw[hss] at ok;refine⟨by simp only[itR,nxR,TU,Uc,h1],?_⟩;simp only[itR,nxR];refine h2.push ?_ ok.2;obtain⟨s,hs,hd,g1,g2⟩:=ok.1;refine⟨s,?_,hd,g1,g2⟩;simp only[CI];rw[List.take_length];exact hs
def l3n(q:QF):St:={n:=Try.f28.ntmps,fr:=[(0,.ptr 0 0 0),(4,.ptr 1 0 0),(5,.ptr 2 0 0),(12,.ptr 6 0 0),(14,.int .i64 q.k),(15,.nils),(16,.int .i64 0)],hp:=hF q}
theorem F6{a b:AV}(h:Bj a b)(k s:Nat){r r':List (Nat×AV)}(hr:Bj (AX.Aq r s) (AX.Aq r' s)):Bj (AX.Aq ((k,a)::r) s) (AX.Aq ((k,b)::r') s):=by
 simp only[AX.Aq];cases Nat.beq k s with
 | true=>exact h
 | false=>exact hr
theorem ren_f(q:QF):Ren 1 (l3n q) (Ct (frU q [] 0 0 s0 false)):=by
 refine Ren.less rfl (by simp[l3n,Ct,hF]) (fun s=>?_) fun b blk' h=>?_
 .exact F6 (.refl _) _ _ (F6 (.refl _) _ _ (F6 (.refl _) _ _ (F6 (.refl _) _ _ (F6 (.refl _) _ _ (F6 (.nilS 8 0) _ _ (F6 (.refl _) _ _ (.refl _)))))))
 match b,h with
 | 0,h=>exact .inl ⟨by simp[l3n,hF],_,rfl,.inl (by simpa [Ct,frU,hF,nth] using h.symm)⟩
 | 1,h=>exact .inl ⟨by simp[l3n,hF],_,rfl,.inl (by simpa [Ct,frU,hF,nth] using h.symm)⟩
 | 2,h=>exact .inl ⟨by simp[l3n,hF],_,rfl,.inl (by simpa [Ct,frU,hF,nth] using h.symm)⟩
 | 3,h=>exact .inl ⟨by simp[l3n,hF],_,rfl,.inl (by simpa [Ct,frU,hF,nth] using h.symm)⟩
 | 4,h=>exact .inl ⟨by simp[l3n,hF],_,rfl,.inl (by simpa [Ct,frU,hF,nth] using h.symm)⟩
 | 5,h=>exact .inl ⟨by simp[l3n,hF],_,rfl,.inl (by simpa [Ct,frU,hF,nth] using h.symm)⟩
 | 6,h=>exact .inl ⟨by simp[l3n,hF],_,rfl,.inl (by simpa [Ct,frU,hF,nth] using h.symm)⟩
 | 7,h=>exact .inl ⟨by simp[l3n,hF],_,rfl,.inl (by simpa [Ct,frU,hF,nth] using h.symm)⟩
 | 8,h=>have h:some (dB [])=some blk':=h;simp only[Td] at h;subst h;exact .inr ⟨by simp[l3n,hF],rfl,rfl,rfl,rfl⟩
 | b+9,h=>simp[Ct,frU,hF,nth] at h
theorem n2_run{Q:QF}(hv:AB (CI Q []))(hrs:Q.rs=[]){c:Nat}(hcc:1<=Q.cc/\Q.cc<=Bk (CI Q []) (Uv c false) Q.ss.length)(hk:1<=Q.k/\Q.k<=5)(hkk:Q.kk<=90000){M:Nat}(hM:(M:Int)=if Q.k<=Q.cc then Q.k else Q.cc):
  T UB 1 (.loop (zC (zB Try.f28) 2)) (Cm Q) (TK UB 1 (Fin UB Try.f28 1 [some (Ag Q.L (Q.kk+M))] (Ai (CI Q (itR Q M).rs))) (zK (zB Try.f28) 2)):=by
 have hM1:(M:Int)<=Q.k/\(M:Int)<=Q.cc/\((M:Int)=Q.k\/(M:Int)=Q.cc):=by split at hM<;>omega
 have hok:=Oo hv hrs (c:=c) (M:=M) (by omega);have hns:=hv.ns;simp only[CI] at hns;refine T.loop (fun m:Nat=>Cm (itR Q m)) (fun m=>m<=M) (fun m=>M+1-m) 0 (TJ _) ?_;intro m hm;obtain⟨h1,h2⟩:=hok m hm;have e:=OO Q m;by_cases h:m<M
 .have hss:(itR Q m).ss=Q.ss:=by rw[e]
  have hkm:(itR Q m).k=Q.k-(m:Int):=by rw[e]
  have hcm:(itR Q m).cc=Q.cc:=by rw[e]
  have hkkm:(itR Q m).kk=Q.kk+m:=by rw[e]
  have hne:=Qm hv c (rs:=(itR Q m).rs) (by rw[h1];exact Int.lt_of_lt_of_le (by omega) hcc.2);simp only[CI] at hne;have hsp:SpOk (itR Q m).ss:=by
   rw[hss];refine⟨hns,fun s hs=>?_,fun s hs=>?_⟩
   .obtain⟨j,hj⟩:=List.mem_iff_getElem?.1 hs;exact(hv.goodT j s hj).hk
   .obtain⟨j,hj⟩:=List.mem_iff_getElem?.1 hs;have g:=(hv.goodT j s hj).hb;have b:=hv.bd j;have nb:=hv.nb24;have hjl:=(Tz.1 hj).1;omega
  refine T.path mix (nvl_0 (itR Q m) (TD (by rw[hkm];omega)) (TD (by simp only[iN];rw[h1,hcm];omega)) (T.less (ren_f (itR Q m)) (nw_run hsp (by omega) (by omega) (by omega) (by rw[hss];exact hne) fun st hst=>⟨m+1,hst,h,by omega⟩)))
 .obtain rfl:m=M:=by omega
  have hb:(itR Q m).bs.length=((itR Q m).bs.map bA).length:=by simp
  have hg:(itR Q m).g.length=(gL (itR Q m).g).length:=(BD _).symm;have hs:(itR Q m).ss.length=((itR Q m).ss.map sA).length:=by simp
  have hr:(itR Q m).rs.length=((itR Q m).rs.map (AV.int .i64)).length:=by simp
  have hkm:(itR Q m).k=Q.k-(m:Int):=by rw[e]
  have hcm:(itR Q m).cc=Q.cc:=by rw[e]
  have ek:Q.L=(itR Q m).L/\Q.kk+m=(itR Q m).kk/\CI Q (itR Q m).rs=CI (itR Q m) (itR Q m).rs:=by rw[e];exact⟨rfl,rfl,rfl⟩
  rw[ek.1,ek.2.1,ek.2.2];by_cases h0:(m:Int)=Q.k
  .exact T.out mix (nvx_0 (itR Q m) (TC (by rw[hkm];omega)) hb hg hs hr)
  .exact T.out mix (nvy_0 (itR Q m) (TD (by rw[hkm];omega)) (TC (by simp only[iN];rw[h1,hcm];omega)) hb hg hs hr)
structure LV(n:Aa):Prop where
 v:AB n
 ln:3<=n.ss.length/\n.ss.length<=5
 d0:∀s,n.ss[0]?=some s->s.dep=true
 d1:∀s,n.ss[1]?=some s->s.dep=false
 d2:∀s,n.ss[2]?=some s->s.dep=false
 rb:n.rs≠[]
 rows:Rows n.nx
 rng:Rng n.bs.length n.nx
theorem GI.rows{n m:Nat}{g:List (List Int)}(h:GI n m g)(hm:m<=1000):Rows g:=fun v hv=>by rw[h.len] at hv;have:=(h.row v hv).1;omega
theorem net_ex(L:List Int)(kk:Nat)(hkk:kk<=5000)(most:Int)(hmo:1<=most/\most<=20):
  ∃n kk',(LV n/\(n.bs.length:Int)=1+Ae L kk most)/\kk'<=kk+200/\CT UB 28 [some (Ag L kk)] [.ptr 0 0 0,.int .i64 most] [some (Ag L kk')] (Ai n):=by
 have hb:Try.f28.body=some (zB Try.f28):=by kernel_rfl
 have c0:=A4 L kk most (by omega);have r0:=A3 L kk most (by omega) (by omega);have w0:i64.wrap (1+Ae L kk most)=1+Ae L kk most:=A6 _ (by omega) (by omega);obtain⟨K,hK⟩:∃K:Nat,(K:Int)=1+Ae L kk most:=⟨(1+Ae L kk most).toNat,by omega⟩;have hK2:1<=K/\K<=24:=by omega
 have hro:=Oz (L:=L) (kk:=kk+1+2 * K) hK2;have hbl:=KL L (kk+1) K;generalize hg:(Be L K (kk+1+2 * K)).1=g at hro;generalize hk1:(Be L K (kk+1+2 * K)).2=k1 at hro;have r1:=A3 L k1 3 (by omega) (by omega);obtain⟨M,hM⟩:∃M:Nat,(M:Int)=3+Ae L k1 3:=⟨(3+Ae L k1 3).toNat,by omega⟩;have hp:=itS_ok (L:=L) hK2 (kk:=k1+1) (b0:=(K:Int)) M;have hpb:=O8 (L:=L) (b:=K) (p:=⟨[],k1+1,(K:Int)⟩) M;simp only[Ue,TP] at hpb;generalize hpp:itS L K ⟨[],k1+1,(K:Int)⟩ M=p at hp hpb;have q0:=A3 L p.kk 4 (by omega) (by omega);have q1:=A3 L (p.kk+1) 3 (by omega) (by omega);have q2:=A3 L (p.kk+2) 3 (by omega) (by omega);have q3:=A3 L (p.kk+3) 8 (by omega) (by omega);have q4:=A3 L (p.kk+4) 3 (by omega) (by omega);have e0:=A4 L p.kk 4 (by omega);have e1:=A4 L (p.kk+1) 3 (by omega);have e2:=A4 L (p.kk+2) 3 (by omega);have e3:=A4 L (p.kk+3) 8 (by omega);have e4:=A4 L (p.kk+4) 3 (by omega);generalize Ae L p.kk 4=x at q0 e0;generalize Ae L (p.kk+1) 3=y at q1 e1;generalize Ae L (p.kk+2) 3=z at q2 e2;generalize Ae L (p.kk+3) 8=w at q3 e3;generalize Ae L (p.kk+4) 3=v at q4 e4;have hrw:Rows g:=hro.1.rows (by omega);have hv:=RB (L:=L) (kk:=kk+1) hK2 hro.1 hp (by omega) (x:=x) (y:=y) (z:=z) (w:=w) q0 q1 q2 q3;have fl:=S4 (n:=⟨bsZ L (kk+1) K,g,p.ss,[],1+x,y,z,1+w⟩) hrw hv rfl;have hcap:=cap_ok (n:=⟨bsZ L (kk+1) K,g,p.ss,[],1+x,y,z,1+w⟩) hrw hv;have hslo:B6 ⟨bsZ L (kk+1) K,g,p.ss,[],1+x,y,z,1+w⟩=Bk ⟨bsZ L (kk+1) K,g,p.ss,[],1+x,y,z,1+w⟩ (Uv (AA ⟨bsZ L (kk+1) K,g,p.ss,[],1+x,y,z,1+w⟩) false) p.ss.length:=rfl;generalize AA ⟨bsZ L (kk+1) K,g,p.ss,[],1+x,y,z,1+w⟩=cel at hslo;generalize B6 ⟨bsZ L (kk+1) K,g,p.ss,[],1+x,y,z,1+w⟩=sl at fl hcap hslo;generalize Bw ⟨bsZ L (kk+1) K,g,p.ss,[],1+x,y,z,1+w⟩=gi at fl hcap;generalize DM gi sl=cc at fl hcap;obtain⟨m,hm⟩:∃m:Nat,(m:Int)=if 1+v<=cc then 1+v else cc:=⟨(if 1+v<=cc then 1+v else cc).toNat,by split<;>omega⟩
 let Q:QF:=⟨L,p.kk+5,bsZ L (kk+1) K,g,p.ss,[],1+x,y,z,1+w,iN gi.length,sl,cc,1+v,[],0,0,s0,false,0,0⟩
 have hmb:1<=m/\m<=3:=by split at hm<;>omega
 have t2:=n2_run (Q:=Q) hv rfl (c:=cel) ⟨hcap.1,hslo ▸ hcap.2⟩ ⟨by show 1<=1+v;omega,by show 1+v<=5;omega⟩ (by show p.kk+5<=90000;omega) (M:=m) hm;have rok:=Oo (Q:=Q) hv rfl (c:=cel) (M:=m) (by have:(m:Int)<=cc:=by {split at hm<;>omega};exact Int.le_trans this (hslo ▸ hcap.2)) m (TI _);refine⟨CI Q (itR Q m).rs,p.kk+5+m,⟨⟨hv.robots rok.2 (by omega),by show 3<=p.ss.length/\p.ss.length<=5;omega,fun s h=>(hp.el 0 s h).2.1 rfl,fun s h=>(hp.el 1 s h).2.2.1 (.inl rfl),fun s h=>(hp.el 2 s h).2.2.1 (.inr rfl),fun e=>by have:=rok.1;have e':(itR Q m).rs=[]:=e;rw[e'] at this;simp at this;omega,hrw,by have:=RY L K (kk+1+2 * K);rw[hg,<-hbl] at this;exact this⟩,by rw[<-hK];show((bsZ L (kk+1) K).length:Int)=_;rw[hbl]⟩,by omega,?_⟩;refine CT.path mix Try.func28 hb (nL rfl) (nti_0 (qA L kk [] [] [] [] most 0 em (Ae L kk most) 0 0 0 (kk+1) 0 0 0) c0 ?_);have t0:=n0_run (L:=L) (kk:=kk+1) hK2 (by omega) (post:=Fin UB Try.f28 1 [some (Ag L (p.kk+5+m))] (Ai (CI Q (itR Q m).rs))) fun B hB=>by
  subst hB;rw[hg,hk1,<-hM];have hbl':1<=(bsZ L (kk+1) K).length/\(bsZ L (kk+1) K).length<=24:=by rw[hbl];exact hK2
  refine n1_run hbl' (by omega) (by omega) (by omega) ?_;rw[hbl,hpp];exact n1_exit (by omega) (by omega) (by omega) e0 e1 e2 e3 e4 fl t2
 have t1:=T.less (ren_z (qA L (kk+1) [] [] [] [] (K:Int) 0 em 0 0 0 0 0 0 0 0) rfl rfl) t0;have t1':T UB 1 (.loop (zC (zB Try.f28) 0)) (FB (qA L (kk+1) [] [] [] [] (i64.wrap (1+Ae L kk most)) 0 em 0 0 0 0 0 0 0 0)) (TK UB 1 (Fin UB Try.f28 1 [some (Ag L (p.kk+5+m))] (Ai (CI Q (itR Q m).rs))) (zK (zB Try.f28) 0)):=by rw[w0,<-hK];exact t1
 exact t1'
inductive Eg where | l0 (v0:Int) | l1 (v0:Int) (v1:Ao) (v2:Int)
def GR(n:Aa)(c:Int):Eg->St | .l0 v0=>St.mk 37 [(1,iv c),(6,iv (-1)),(7,iv 0),(12,UA (Uu sA n.ss)),(13,iv (iN (Uu sA n.ss).length)),(14,iv v0)] [] | .l1 v0 v1 v2=>St.mk 37 [(1,iv c),(6,iv (-1)),(7,iv 0),(8,iv v0),(9,AV.ptr 0 0 0),(12,UA (Uu sA n.ss)),(13,iv (iN (Uu sA n.ss).length)),(14,iv v0),(20,iv v1.k),(21,iv v2)] [some (bK [sA v1] 6)]
def Ku:Eg->Nat | .l0 _=>0 | .l1 _ _ _=>1
def plEn(n:Aa)(c:Int):Option (Eg⊕Ret):=some (.inl (.l0 ((0:Int))))
def GX(n:Aa)(c v0:Int):Option (Eg⊕Ret):=br (decide (v0<iN (Uu sA n.ss).length)) (gu (0<=v0) <|el (n.ss) (v0.toNat) fun(x17:Ao)=>some (.inl (.l1 v0 x17 ((0:Int))))) (some (.inr ([],AV.tup [iV (-1),iV 0])))
def GT(n:Aa)(c v0:Int)(v1:Ao)(v2:Int):Option (Eg⊕Ret):=br (decide (v2<v1.k)) (br (i64.wrap (v1.b+v2)==c) (some (.inr ([],AV.tup [iV v0,iV (i64.wrap (v2+1))]))) (some (.inl (.l1 v0 v1 (i64.wrap (v2+1)))))) (some (.inl (.l0 (i64.wrap (v0+1)))))
def NF(n:Aa)(c:Int):Eg->Option (Eg⊕Ret) | .l0 v0=>GX n c v0 | .l1 v0 v1 v2=>GT n c v0 v1 v2
theorem plEn_ok(n:Aa)(c:Int)(o:Eg⊕Ret)(h:plEn n c=some o):Arr UB Try.f109 0 (GR n c) Ku (zB Try.f109) [] {n:=Try.f109.ntmps,fr:=AH 0 ([Ai n,.int .i64 c]),hp:=([])} o:=Scr.ok h mix (.lp [] [] [] [] [] [] [1,6,7,12,13,14] (aj (aj (u2 t3) (aj t3 (al (u2 (u2 (u2 t2)))))) t7)) (by kernel_rfl)
theorem plS0_ok(n:Aa)(c v0:Int)(o:Eg⊕Ret)(h:GX n c v0=some o):Arr UB Try.f109 0 (GR n c) Ku (Aw Try.f109 0) (.rnd (Aw Try.f109 0)::AJ Try.f109 0) (GR n c (.l0 v0)) o:=Scr.ok h mix (.rn 0 [] [] [] [] (al (al t3)) <|.br (fun a0=>.gu fun a1=>.el fun x17 a2=>.lp [31] [(17,sA x17)] [] [] [] [0] [1,6,7,8,9,12,13,14,20,21] (aj (aj a0 (aj (u2 (aj (k2 (aj a1 (Am (f:=sA) a2))) (u2 (ak (u2 (al (k2 n11))))))) (al (u2 (u2 t2))))) (k3 t9))) (fun a0=>.rt [30] [] [] [] [] [] (aj (aj a0 (al (u2 (u2 (u2 s2))))) (al t3)))) (by kernel_rfl)
theorem plS1_ok(n:Aa)(c v0:Int)(v1:Ao)(v2:Int)(o:Eg⊕Ret)(h:GT n c v0 v1 v2=some o):Arr UB Try.f109 0 (GR n c) Ku (Aw Try.f109 1) (.rnd (Aw Try.f109 1)::AJ Try.f109 1) (GR n c (.l1 v0 v1 v2)) o:=Scr.ok h mix (.rn 0 [] [] [] [] (al (al t3)) <|.br (fun a0=>.rn 1 [45] [] [] [] (aj a0 (aj (u2 s2) (al (u2 (u2 (u2 (aj t3 (u2 (al t3))))))))) <|.br (fun a1=>.rt [59] [] [] [] [] [] (aj (aj a1 (aj (u2 (u2 (u2 (u2 s2)))) (al (u2 (u2 (u2 s2)))))) (al t3))) (fun a1=>.lp [58] [] [] [] [] [0] [1,6,7,8,9,12,13,14,20,21] (aj (aj a1 (al (u2 s2))) (k3 t9)))) (fun a0=>.lp [44] [] [] [] [] [] [1,6,7,12,13,14] (aj (aj a0 (al (u2 s2))) t7))) (by kernel_rfl)
theorem pl_ct(n:Aa)(c:Int)(r:Ret)(h:Ax (NF n c) (plEn n c) r):CT UB 109 ([]) ([Ai n,.int .i64 c]) r.1 r.2:=
 CT.mach (fn:=Try.f109) (c:=zB Try.f109) (S:=GR n c) (hd:=Ku) Try.func109 (by kernel_rfl) (nL rfl)
  (fun s o ho=>match s,ho with
   | .l0 v0,ho=>plS0_ok n c v0 o ho
   | .l1 v0 v1 v2,ho=>plS1_ok n c v0 v1 v2 o ho
  )
  (fun o ho=>plEn_ok n c o ho) h
def inP(c:Int)(s:Ao):Bool:=decide (s.b<=c)&&decide (c<s.b+s.k)
def plB(n:Aa)(c:Int)(i:Nat):Bool:=match n.ss[i]? with | some s=>inP c s | none=>false
@[irreducible] def plF(n:Aa)(c:Int):Option Nat:=fnd (plB n c) 0 n.ss.length
def plI(n:Aa)(c:Int):Int:=match plF n c with | some i=>(i:Int) | none=> -1
def plJ(n:Aa)(c:Int):Int:=match plF n c with | some i=>c-(n.ss.getD i s0).b+1 | none=>0
theorem AB.sb{n:Aa}(hv:AB n){i:Nat}{s:Ao}(h:n.ss[i]?=some s):1<=s.k/\s.k<=4/\1<=s.b/\s.b<=44/\s.b=Az n i:=by have g:=hv.goodT i s h;have b:=hv.bd i;have nb:=hv.nb24;have ns:=hv.ns;have hl:=(Tz.1 h).1;have k:=g.hk;have e:=g.hb;exact⟨k.1,k.2,by omega,by omega,e⟩
theorem AD{p:Prop}[Decidable p](h:p):decide p=true:=TD h
theorem Ar{p:Prop}[Decidable p](h:¬p):decide p=false:=TC h
theorem pl_run{n:Aa}(hv:AB n)(c:Int)(hc : -1000<=c/\c<=1000):∀(k i:Nat),i+k=n.ss.length->
  Ax (NF n c) (some (.inl (.l0 (i:Int)))) ([],.tup [.int .i64 (match fnd (plB n c) i k with | some i=>(i:Int) | none=> -1),.int .i64 (match fnd (plB n c) i k with | some i=>c-(n.ss.getD i s0).b+1 | none=>0)]):=by
 intro k
 have ns:=hv.ns
 induction k with
 | zero=>
  intro i hi
  refine .go _ _ ?_
  show Ax _ (GX n c i) _
  unfold GX
  rw[Af (Ar (by simp[iN];omega))]
  exact .ret _
 | succ k ih=>
  intro i hi
  refine .go _ _ ?_
  show Ax _ (GX n c i) _
  unfold GX
  obtain⟨s,hs⟩:∃s,n.ss[i]?=some s:=⟨_,Tx (by omega)⟩
  have sb:=hv.sb hs
  have hg:n.ss.getD i s0=s:=by rw[Ty,hs];rfl
  have ih':=ih (i+1) (by omega)
  rw[An (AD (by simp[iN];omega)),Ab (by omega),TG,AF hs]
  have hp:plB n c i=inP c s:=by unfold plB;rw[hs]
  simp only[fnd,hp]
  -- the inner loop
  have inner:∀(m j:Nat),(j:Int)+m=s.k->(c<s.b\/s.b+j<=c)->Ax (NF n c) (some (.inl (.l1 (i:Int) s (j:Int)))) ([],.tup [.int .i64 (match (match inP c s with | true=>some i | false=>fnd (plB n c) (i+1) k) with | some i=>(i:Int) | none=> -1),.int .i64 (match (match inP c s with | true=>some i | false=>fnd (plB n c) (i+1) k) with | some i=>c-(n.ss.getD i s0).b+1 | none=>0)]):=by
   intro m
   induction m with
   | zero=>
    intro j hj hc'
    refine .go _ _ ?_
    show Ax _ (GT n c i s j) _
    unfold GT
    rw[Af (Ar (by omega)),zW i (by omega)]
    have:inP c s=false:=by unfold inP;simp;omega
    rw[this]
    exact ih'
   | succ m ihm=>
    intro j hj hc'
    refine .go _ _ ?_
    show Ax _ (GT n c i s j) _
    unfold GT
    rw[An (AD (by omega)),A6 (s.b+j) (by omega) (by omega),zW j (by omega)]
    by_cases he:s.b+(j:Int)=c
    .have:inP c s=true:=by unfold inP;simp;omega
     rw[An (by simp[he]),this]
     simp only[hg]
     have e2:((j+1:Nat):Int)=c-s.b+1:=by omega
     rw[e2]
     exact .ret _
    .rw[Af (by simp[he])]
     exact ihm (j+1) (by omega) (by omega)
  exact inner s.k.toNat 0 (by omega) (by omega)
theorem Ou{n:Aa}(hv:AB n)(c:Int)(hc : -1000<=c/\c<=1000):CT UB 109 [] [Ai n,.int .i64 c] [] (.tup [.int .i64 (plI n c),.int .i64 (plJ n c)]):=by have h:=pl_run hv c hc n.ss.length 0 (by omega);unfold plI plJ plF;exact pl_ct n c _ h
end Go.Proofs.Ytedjkebooffjpaa
namespace Go.AX
theorem Ax.to{σ ρ:Type}{step:σ->Option (σ⊕ρ)}{s:σ}{y:Option (σ⊕ρ)}{r:ρ}(h:step s=y)(k:Ax step y r):Ax step (some (.inl s)) r:=.go _ _ (h ▸ k)
theorem Ax.val{σ ρ:Type}{step:σ->Option (σ⊕ρ)}{x:Option (σ⊕ρ)}{r:ρ}(h:x=some (.inr r)):Ax step x r:=h ▸ .ret r
theorem Ax.res{σ ρ:Type}{step:σ->Option (σ⊕ρ)}{x:Option (σ⊕ρ)}{r r':ρ}(h:Ax step x r)(e:r=r'):Ax step x r':=e ▸ h
theorem PE{α β σ ρ:Type}{step:σ->Option (σ⊕ρ)}{L:Nat->β->σ}{f:β->α->β}{l:List α}{r:ρ}
  (b0:β) (hg:∀i x,l[i]?=some x->Ax step (some (.inl (L (i+1) (f ((l.take i).foldl f b0) x)))) r->Ax step (some (.inl (L i ((l.take i).foldl f b0)))) r)
  (he:Ax step (some (.inl (L l.length (l.foldl f b0)))) r):Ax step (some (.inl (L 0 b0))) r:=by
 have key:∀k i,i+k=l.length->Ax step (some (.inl (L i ((l.take i).foldl f b0)))) r:=by
  intro k;induction k with
  | zero=>intro i hi;have e:i=l.length:=by omega
          subst e;rw[List.take_length];exact he
  | succ k ih=>intro i hi;have hx:l[i]?=some l[i]:=Tx (by omega);refine hg i _ hx ?_;have h:=ih (i+1) (by omega);rw[List.take_add_one,hx,Option.toList_some,List.foldl_append] at h;exact h
 have h:=key l.length 0 (by omega);simpa using h
theorem rngS{α β:Type}{g:α->AV}{l:List α}{i:Nat}{x:α}(hx:l[i]?=some x){f:α->Option β}{y:Option β}:br (decide ((i:Int)<iN (Uu g l).length)) (gu (0<=(i:Int)) (el l (i:Int).toNat f)) y=f x:=by have hl:=(Tz.1 hx).1;rw[An (TD (by simp[iN];omega)),Ab (by omega),TG,AF hx]
theorem C3{α β:Type}{g:α->AV}{l:List α}{y z:Option β}:br (decide (((l.length:Nat):Int)<iN (Uu g l).length)) z y=y:=Af (TC (by simp[iN]))
theorem CH{σ ρ:Type}{step:σ->Option (σ⊕ρ)}(L:Nat->σ)(N:Nat){r:ρ}(h:∀i,i<N->Ax step (some (.inl (L (i+1)))) r->Ax step (some (.inl (L i))) r)(he:Ax step (some (.inl (L N))) r):
  Ax step (some (.inl (L 0))) r:=by
 have key:∀k i,i+k=N->Ax step (some (.inl (L i))) r:=by
  intro k;induction k with
  | zero=>intro i hi;have e:i=N:=by omega
          subst e;exact he
  | succ k ih=>intro i hi;exact h i (by omega) (ih (i+1) (by omega))
 exact key N 0 (by omega)
theorem beqM{α:Type}{k i:Nat}{a b:α}:cond (Nat.beq k i) a b=if k=i then a else b:=by
 cases h:Nat.beq k i with
 | true=>rw[Tv (TE h)];rfl
 | false=>rw[Tw (fun e=>by rw[e,Nat.beq_refl] at h;cases h)];rfl
end Go.AX
namespace Go.Proofs.Ytedjkebooffjpaa
theorem Kg{σ ρ:Type}{step:σ->Option (σ⊕ρ)}(L:Nat->σ)(N:Nat)(p:Nat->Bool){rF:Nat->ρ}{r:ρ}
  (hb:∀i,i<N->p i=true->Ax step (some (.inl (L i))) (rF i))
  (hg:∀i x,i<N->p i=false->Ax step (some (.inl (L (i+1)))) x->Ax step (some (.inl (L i))) x)
  (he:fnd p 0 N=none->Ax step (some (.inl (L N))) r):Ax step (some (.inl (L 0))) (match fnd p 0 N with | some i=>rF i | none=>r):=by
 have key:∀k i,i+k=N->fnd p 0 N=fnd p i (N-i)->Ax step (some (.inl (L i))) (match fnd p i (N-i) with | some i=>rF i | none=>r):=by
  intro k;induction k with
  | zero=>intro i hi h0
          have e:i=N:=by omega
          subst e;rw[C1 (by omega)] at h0 ⊢
          exact he h0
  | succ k ih=>
   intro i hi h0;have hlt:i<N:=by omega
   rw[CV hlt] at h0 ⊢
   cases hp:p i with
   | true=>exact hb i hlt hp
   | false=>rw[hp] at h0;exact hg i _ hlt hp (ih (i+1) (by omega) h0)
 exact key N 0 (by omega) rfl
theorem AP{α:Type}{l:List α}{i:Nat}(d:α)(h:i<l.length):l[i]?=some (l.getD i d):=by rw[Ty,Tx h];rfl
theorem BB{α β:Type}{g:α->AV}{l:List α}{i:Nat}(d:α)(h:i<l.length){f:α->Option β}{y:Option β}:br (decide ((i:Int)<iN (Uu g l).length)) (gu (0<=(i:Int)) (el l (i:Int).toNat f)) y=f (l.getD i d):=rngS (AP d h)
theorem elG{α β:Type}{l:List α}{i:Nat}(d:α)(h:i<l.length){f:α->Option β}:el l (i:Int).toNat f=f (l.getD i d):=by rw[TG,AF (AP d h)]
theorem C0{x:Int}(h1 : -9223372036854775808<=x)(h2:x<=9223372036854775807):i64.wrap x=x:=by simp only[IntKind.wrap,IntKind.bits,IntKind.signed];simp;omega
theorem Fg{l:List (Option Blk)}{x:Blk}{b:Nat}{y:Blk}(h:nth (l++[some x]) b=some y):nth l b=some y\/(b=l.length/\y=x):=by
 rw[JB] at h;split at h
 .exact .inl h
 .split at h
  .rename_i e;cases h;exact .inr ⟨e,rfl⟩
  .cases h
theorem OG{f:FuncId}{hin hout:List (Option Blk)}{args:List AV}{k:IntKind}{e:Int}(z:Nat)(h:CT UB f hin args hout (.tup [.nils,.int k e])):CT UB f hin args (hout++[some (Blk.mk [] z true true none)]) (.tup [.sl hout.length 0 0,.int k e]):=by
 intro φ A w vs h1 h2 h3 h4 h5;refine(h φ A w vs h1 h2 h3 h4 h5).mono fun e w' ⟨v,φ',he,C⟩=>⟨v,φ',he,?_⟩
 have hnone:φ' hout.length=none:=C.out _ (TI _);have hmut:∀r,Mut φ' (nth (hout++[some (Blk.mk [] z true true none)])) r->Mut φ' (nth hout) r:=by
  rintro r ⟨b,blk',z',g1,g2,g3⟩
  rcases Fg g1 with g | ⟨rfl,rfl⟩
  .exact⟨b,blk',z',g,g2,g3⟩
  .rw[hnone] at g3;cases g3
 have hok:∀r,Ok A w.heap.size φ' (nth hout) w' r->Ok A w.heap.size φ' (nth (hout++[some (Blk.mk [] z true true none)])) w' r:=fun r ⟨g1,g2,g3⟩=>⟨g1,g2,fun h=>g3 (hmut r h)⟩
 have brm:∀{b:Nat} {blk:Blk},BR φ' (Ok A w.heap.size φ' (nth hout) w') w' b blk->BR φ' (Ok A w.heap.size φ' (nth (hout++[some (Blk.mk [] z true true none)])) w') w' b blk:=by
  rintro b blk (h1 | ⟨r,cs,T,h1,h2,h3,h5⟩ | h1)
  .exact .inl h1
  .refine .inr (.inl ⟨r,cs,T,h1,h2,h3,fun i e he=>⟨(h5 i e he).1,fun j c hc=>?_⟩⟩);obtain⟨g3,v,g4,g5⟩:=(h5 i e he).2 j c hc;exact⟨g3,v,g4,g5.mono (fun _ _ h=>h) hok (fun _ _=>rfl) (fun _=>TI _)⟩
  .exact .inr (.inr h1)
 have hlen:(hout++[some (Blk.mk [] z true true none)]).length=hout.length+1:=by simp
 have hs:∀b r z',(nth (hout++[some (Blk.mk [] z true true none)]) b).isSome=true->φ' b=some (r,z')->(nth hout b).isSome=true:=by
  intro b r z' g1 g2;obtain⟨blk',g⟩:=Option.isSome_iff_exists.1 g1;rcases Fg g with g | ⟨rfl,_⟩
  .rw[g];rfl
  .rw[hnone] at g2;cases g2
 refine⟨C.par,C.keep,fun r hr=>C.mutd r (hmut r hr),⟨fun b blk' hb'=>?_,fun b blk' hb' hf=>?_,fun b b' r z1 z2 g1 g2 g3 g4=>C.heap.inj b b' r z1 z2 (hs b r z1 g1 g3) (hs b' r z2 g2 g4) g3 g4⟩,?_,fun b hb'=>C.out b (by rw[hlen] at hb';omega),by have:=C.len;rw[hlen];omega,C.own⟩
 .rcases Fg hb' with g | ⟨rfl,rfl⟩
  .exact brm (C.heap.blk b blk' g)
  .exact .inl ⟨rfl,hnone,rfl,rfl⟩
 .rcases Fg hb' with g | ⟨rfl,rfl⟩
  .exact C.heap.flat b blk' g hf
  .intro e he;cases he
 .obtain⟨us,rfl,hl,hh⟩:=C.val.tup_inv;match us,hl with
  | [u0,u1],_=>
   have a0:=hh 0 _ _ rfl rfl;have a1:=hh 1 _ _ rfl rfl;refine .tup _ _ rfl fun i c u hc hu=>?_
   match i,hc,hu with
   | 0,hc,hu=>cases hc;cases hu;rw[a0.nils_inv];exact .slnil _ 0 none
   | 1,hc,hu=>cases hc;cases hu;rw[a1.int_inv];exact .imm _ _ (.int _ _)
theorem nd_inj{l:List Int}(hn:l.Nodup){i j:Nat}(hi:i<l.length)(hj:j<l.length)(h:l.getD i 0=l.getD j 0):i=j:=by
 rw[Ty,Tx hi,Ty,Tx hj] at h;have hp:=List.pairwise_iff_getElem.1 hn;rcases Nat.lt_trichotomy i j with g | g | g
 .exact absurd h (hp i j hi hj g)
 .exact g
 .exact absurd h.symm (hp j i hj hi g)
theorem QV{l:List Int}{x:Int}(h:l.Nodup)(hx:x∉l):(l++[x]).Nodup:=by rw[List.nodup_append];exact⟨h,by simp,fun a ha b hb e=>hx (by rw[<-Tm.1 hb,<-e];exact ha)⟩
def ckE(n:Aa)(c:Int):Int:=if AZ n=true then (if c<0\/(AA n:Int)<=c then 19 else 0) else 20
theorem La(L:List Int)(kk:Nat)(most:Int):∃p:Aa×Nat,kk<=5000->(1<=most/\most<=20)->(LV p.1/\(p.1.bs.length:Int)=1+Ae L kk most)/\p.2<=kk+200/\CT UB 28 [some (Ag L kk)] [.ptr 0 0 0,.int .i64 most] [some (Ag L p.2)] (Ai p.1):=by
 by_cases h:kk<=5000/\(1<=most/\most<=20)
 .obtain⟨n,k,a,b,c⟩:=net_ex L kk h.1 most h.2;exact⟨(n,k),fun _ _=>⟨a,b,c⟩⟩
 .exact⟨(⟨[],[],[],[],0,0,0,0⟩,0),fun a b=>absurd ⟨a,b⟩ h⟩
@[irreducible] def Ac(L:List Int)(kk:Nat)(most:Int):Aa:=(Classical.choose (La L kk most)).1
@[irreducible] def Ak(L:List Int)(kk:Nat)(most:Int):Nat:=(Classical.choose (La L kk most)).2
theorem Qg{L:List Int}{kk:Nat}{most:Int}(h:kk<=5000)(hm:1<=most/\most<=20):LV (Ac L kk most)/\Ak L kk most<=kk+200/\CT UB 28 [some (Ag L kk)] [.ptr 0 0 0,.int .i64 most] [some (Ag L (Ak L kk most))] (Ai (Ac L kk most)):=by unfold Ac Ak;have hs:=Ub (La L kk most) h hm;exact⟨hs.1.1,hs.2⟩
theorem net_ct(L:List Int)(kk:Nat)(most:Int)(h:kk<=5000)(hm:1<=most/\most<=20):CT UB 28 [some (Ag L kk)] [.ptr 0 0 0,.int .i64 most] [some (Ag L (Ak L kk most))] (Ai (Ac L kk most)):=(Qg h hm).2.2
theorem Fv.add{n:Aa}{rs:List Int}(h:Fv n rs){x:Int}(hd:AW n n.ss.length x)(hx:x∉rs):Fv n (rs++[x]):=by
 intro i c hc;rw[T7] at hc;split at hc
 .rename_i hi;obtain⟨h1,h2⟩:=h i c hc;exact⟨h1,by rw[List.take_append_of_le_length (by omega)];exact h2⟩
 .rename_i hi;have e:i=rs.length:=by have:=(Tz.1 hc).1;simp at this;omega
  subst e;simp at hc;subst hc;exact⟨hd,by rw[List.take_append_of_le_length (by omega),List.take_length];exact hx⟩
theorem AB.ends{n:Aa}(hv:AB n){i:Nat}{s:Ao}(hs:n.ss[i]?=some s):0<=s.i/\s.i<AA n/\0<=s.o/\s.o<AA n/\s.b+s.k<=AA n:=by have g:=hv.goodT i s hs;have hc:=hv.cel;have hi:=g.hi;have ho:=g.ho;have hil:=(Tz.1 hs).1;have hm:=Gs hv (i:=i+1) (j:=n.ss.length) (by omega) (TI _);rw[Dm hs,<-g.hb] at hm;exact⟨by omega,by omega,by omega,by omega,by omega⟩
def ED(s:Ao):Int:=s.b+s.k-1
def D6(n:Aa)(c:Int):List Int:=match plF n c with
 | some i=>if c=ED (n.ss.getD i s0) then [(n.ss.getD i s0).o] else [c+1]
 | none=>n.nx.getD c.toNat []++(n.ss.filter fun s=>s.i==c).map fun s=>s.b
def nxO(n:Aa)(c:Int):List Int:=if ckE n c=0 then D6 n c else []
def Dd(n:Aa)(x y:Int):Bool:=Ay (nxO n x) y
theorem K5{n:Aa}{c:Int}(h:ckE n c=0):AB n/\0<=c/\c<(AA n:Int):=by
 unfold ckE at h;split at h
 .rename_i hv;split at h
  .cases h
  .exact⟨Cy.1 hv,by omega,by omega⟩
 .cases h
theorem Qe{n:Aa}{c:Int}(hv:AB n)(h0:0<=c)(h1:c<(AA n:Int)):ckE n c=0:=by unfold ckE;rw[Tv (Cy.2 hv),Tw (by omega)]
theorem Il{n:Aa}{c:Int}{i:Nat}(h:plF n c=some i):∃s,n.ss[i]?=some s/\n.ss.getD i s0=s/\s.b<=c/\c<s.b+s.k/\i<n.ss.length:=by
 unfold plF at h;obtain⟨h1,_,h2⟩:=D0 h;have hl:i<n.ss.length:=by omega
 refine⟨n.ss[i],Tx hl,by rw[Ty,Tx hl];rfl,?_⟩;unfold plB at h1;rw[Tx hl] at h1;unfold inP at h1;simp only[TF,decide_eq_true_eq] at h1;exact⟨h1.1,h1.2,hl⟩
theorem P0{n:Aa}{c:Int}(h:plF n c=none){i:Nat}{s:Ao}(hs:n.ss[i]?=some s):¬(s.b<=c/\c<s.b+s.k):=by unfold plF at h;have hl:=(Tz.1 hs).1;have:=CC h i (TJ _) (by omega);unfold plB at this;rw[hs] at this;unfold inP at this;simp only[Bool.and_eq_false_iff,decide_eq_false_iff_not] at this;omega
theorem SL{n:Aa}(hv:AB n){c:Int}(h0:(n.bs.length:Int)<=c):∀i,i<=n.ss.length->c<Az n i->∃(j:Nat) (s:Ao),n.ss[j]?=some s/\s.b<=c/\c<s.b+s.k:=by
 intro i;induction i with
 | zero=>intro _ h;unfold Az at h;simp at h;omega
 | succ i ih=>
  intro hi h;by_cases hc:c<Az n i
  .exact ih (by omega) hc
  .have hs:n.ss[i]?=some n.ss[i]:=Tx (by omega);have:=Dm hs;have:=(hv.sb hs).2.2.2.2;exact⟨i,_,hs,by omega,by omega⟩
theorem JY{n:Aa}(hv:AB n){c:Int}(h0:0<=c)(h1:c<(AA n:Int))(h:plF n c=none):c<(n.bs.length:Int):=by
 have hce:=hv.cel;refine Int.not_le.1 fun hb=>?_
 obtain⟨j,s,hs,g1,g2⟩:=SL hv hb n.ss.length (TI _) (by omega);exact P0 h hs ⟨g1,g2⟩
theorem AB.lanes{n:Aa}(hrw:Rows n.nx)(hv:AB n){v:Nat}(h:v<n.bs.length):(∀w∈n.nx.getD v [],0<=w/\w<(n.bs.length:Int))/\(n.nx.getD v []).length<=24:=by obtain⟨hg,ha⟩:=IV hrw hv.chk;have hl:=hv.nx;have:=hg.len;have h2:=asc_len hg ha (show v<n.nx.length by omega);exact⟨fun w hw=>by have:=(hg.row v (by omega)).2 w hw;omega,by omega⟩
theorem nxtL_len{n:Aa}(hrw:Rows n.nx)(hv:AB n){c:Int}(h0:0<=c)(h1:c<(AA n:Int)):(D6 n c).length<=100:=by
 unfold D6;cases hp:plF n c with
 | some i=>simp only;split<;>simp
 | none=>have hb:=JY hv h0 h1 hp;have h2:=(hv.lanes hrw (show c.toNat<n.bs.length by omega)).2;have h3:=List.length_filter_le (fun s:Ao=>s.i==c) n.ss;have ns:=hv.ns;simp only[TU,TA];omega
theorem nxO_len{n:Aa}(hrw:Rows n.nx)(c:Int):(nxO n c).length<=100:=by
 unfold nxO;split
 .rename_i h;obtain⟨hv,h0,h1⟩:=K5 h;exact nxtL_len hrw hv h0 h1
 .simp
def ckSt(n:Aa)(c:Int):Empty->St | x=>x.elim
def ckHd:Empty->Nat | x=>x.elim
def ckEn(n:Aa)(c:Int):Option (Empty⊕Ret):=gu (Rows n.nx) <|br (!AZ n) (some (.inr ([],iV 20))) (br (decide (c<0)) (some (.inr ([],iV 19))) (gu (AB n) <|br (decide (iN (AA n)<=c)) (some (.inr ([],iV 19))) (some (.inr ([],iV 0)))))
def ckStep(n:Aa)(c:Int):Empty->Option (Empty⊕Ret) | x=>x.elim
theorem ckEn_ok(n:Aa)(c:Int)(o:Empty⊕Ret)(h:ckEn n c=some o):Arr UB Try.f108 0 (ckSt n c) ckHd (zB Try.f108) [] {n:=Try.f108.ntmps,fr:=AH 0 ([Ai n,.int .i64 c]),hp:=([])} o:=Scr.ok h mix (.rn 0 [] [] [] [] (al (u2 t2)) <|.gu fun a0=>have c0:=Nz a0;.rn 0 [] [] [(7,hK c0 [] [])] [] (al (u2 (aj (ak (aj t9 (al (c0)))) (u2 s2)))) <|.br (fun a1=>.rt [11] [] [] [] [] [] (aj (aj a1 s2) t2)) (fun a1=>.br (fun a2=>.rt [10,25] [] [] [] [] [] (aj (aj a1 (aj (u2 (u2 (u2 (aj a2 (aj a2 (aj a2 (aj a2 (ag a2 s2)))))))) (ak s2))) t2)) (fun a2=>.gu fun a3=>have c1:=Pm a3;.rn 0 [10,24] [] [(15,hK c1 [] [])] [] (aj a1 (al (u2 (u2 (u2 (ag a2 (ag a2 (aj (aj a2 (ak (aj t9 (al (c1))))) (aj (aj a2 t3) (ag a2 s2)))))))))) <|.br (fun a4=>.rt [24,19] [] [] [] [] [] (aj (aj a4 s2) t2)) (fun a4=>.rt [24,18] [] [] [] [] [] (aj (aj a4 s2) t2))))) (by kernel_rfl)
theorem ck_ct(n:Aa)(c:Int)(r:Ret)(h:Ax (ckStep n c) (ckEn n c) r):CT UB 108 ([]) ([Ai n,.int .i64 c]) r.1 r.2:=
 CT.mach (fn:=Try.f108) (c:=zB Try.f108) (S:=ckSt n c) (hd:=ckHd) Try.func108 (by kernel_rfl) (nL rfl)
  (fun s o ho=>match s,ho with
   | x,_=>x.elim)
  (fun o ho=>ckEn_ok n c o ho) h
theorem ck_c(n:Aa)(c:Int)(hrw:Rows n.nx):CT UB 108 [] [Ai n,.int .i64 c] [] (.int .i64 (ckE n c)):=by
 refine ck_ct n c ([],_) (.val ?_);unfold ckEn ckE;rw[Ab hrw];by_cases hv:AB n
 .rw[Cy.2 hv,Tv rfl,Af (by rfl)];by_cases h0:c<0
  .rw[An (AD h0),Tv (.inl h0)]
  .rw[Af (Ar h0),Ab hv];by_cases h1:(AA n:Int)<=c
   .rw[An (AD h1),Tv (.inr h1)]
   .rw[Af (Ar h1),Tw (by omega)]
 .rw[Cv hv,Tw (by simp),An (by rfl)]
inductive Ey where | l0 (v0:List Int) (v1:Int)
def FO(n:Aa)(c:Int):Ey->St | .l0 v0 v1=>St.mk 68 [(1,iv c),(9,AV.sl 0 0 v0.length),(51,UA (Uu sA n.ss)),(52,iv (iN (Uu sA n.ss).length)),(53,iv v1)] [some (bK (Uu iv v0) 1)]
def Nq:Ey->Nat | .l0 _ _=>0
def Ip(n:Aa)(c:Int):Option (Ey⊕Ret):=gu (Rows n.nx) <|br (ckE n c != 0) (some (.inr ([],AV.tup [AV.nils,iV (ckE n c)]))) (gu (AB n) <|gu (-1000<=c/\c<=1000) <|br (decide (0<=plI n c)) (gu (0<=plI n c) <|el (n.ss) ((plI n c).toNat) fun(x30:Ao)=>br (decide (plJ n c<x30.k)) (some (.inr ([],AV.tup [UA [iV (i64.wrap (c+1))],iV 0]))) (el (n.ss) ((plI n c).toNat) fun(x40:Ao)=>some (.inr ([],AV.tup [UA [iV x40.o],iV 0])))) (gu (0<=c) <|el (n.nx) (c.toNat) fun(x47:List Int)=>gu (∀(e:AV),e∈Uu iV x47->e.cells.length=1) <|gu ((Uu iV x47).length<=9223372036854775807) <|gu ((Uu iV x47).length * 8<=140737488355328) <|some (.inl (.l0 x47 ((0:Int))))))
def G6(n:Aa)(c:Int)(v0:List Int)(v1:Int):Option (Ey⊕Ret):=br (decide (v1<iN (Uu sA n.ss).length)) (gu (0<=v1) <|el (n.ss) (v1.toNat) fun(x55:Ao)=>br (x55.i==c) (gu ((Uu iV v0).length+[iV x55.b].length<=9223372036854775807) <|gu (((Uu iV v0).length+[iV x55.b].length) * 8<=140737488355328) <|some (.inl (.l0 (v0++[x55.b]) (i64.wrap (v1+1))))) (some (.inl (.l0 v0 (i64.wrap (v1+1)))))) (some (.inr ([],AV.tup [UA (Uu iV v0),iV 0])))
def cnxStep(n:Aa)(c:Int):Ey->Option (Ey⊕Ret) | .l0 v0 v1=>G6 n c v0 v1
theorem cnxEn_ok(n:Aa)(c:Int)(o:Ey⊕Ret)(h:Ip n c=some o):Arr UB Try.f87 0 (FO n c) Nq (zB Try.f87) [] {n:=Try.f87.ntmps,fr:=AH 0 ([Ai n,.int .i64 c]),hp:=([])} o:=Scr.ok h mix (.rn 0 [] [] [] [] (al (u2 t3)) <|.gu fun a0=>have c0:=ck_c n c a0;.rn 1 [] [] [(14,hK c0 [] [])] [] (aj (u2 (u2 (aj (k2 (aj t9 (ak (al (c0))))) s2))) (al (u2 s2))) <|.br (fun a1=>.rt [33] [] [] [] [] [] (aj (aj a1 (al (u2 (ak s2)))) (al t3))) (fun a1=>.gu fun a2=>.gu fun a3=>have c1:=Ou a2 c a3;.rn 1 [32] [] [(21,hK c1 [] [])] [] (aj a1 (aj (u2 (u2 (aj (k2 (aj t9 (ak (al (c1))))) (u2 (u2 (u2 (u2 s2))))))) (al (u2 s2)))) <|.br (fun a4=>.gu fun a5=>.el fun x30 a6=>.rn 0 [51] [(30,sA x30)] [] [] (aj a4 (al (u2 (u2 (u2 (u2 (aj (k2 (aj a5 (Am (f:=sA) a6))) (u2 (u2 (al t3)))))))))) <|.br (fun a7=>.rt [67] [] [] [] [] [1] (aj (aj a7 (al (u2 (u2 (u2 (u2 t2)))))) (al (aj (show 1=[iv (i64.wrap (c+1))].length by simp) t2)))) (fun a7=>.el fun x40 a8=>.rt [66] [(40,sA x40)] [] [] [] [1] (aj (aj a7 (al (u2 (u2 (u2 (aj (k2 (aj a5 (Am (f:=sA) a8))) (u2 (u2 (u2 (u2 t2)))))))))) (al (aj (show 1=[iv x40.o].length by simp) t2))))) (fun a4=>.gu fun a5=>.el fun x47 a6=>.gu fun a7=>.gu fun a8=>.gu fun a9=>.lq [50] [(47,lI x47)] [] [] [] [1] [1,9,51,52,53] (up [(9,AV.sl 0 0 (Uu iv x47).length)] [] (FO n c (.l0 x47 ((0:Int))))) (aj (aj a4 (aj (u2 (u2 (u2 (aj (k2 (aj a5 (Am (f:=lI) a6))) (u2 (aj (ak (aj a7 (aj a8 a9))) s2)))))) (al (u2 (u2 (u2 t2)))))) t7) (by simp[up,upF,upV,upH,upB,FO,gL,boL,lI,sA,bA])))) (by kernel_rfl)
theorem cnxS0_ok(n:Aa)(c:Int)(v0:List Int)(v1:Int)(o:Ey⊕Ret)(h:G6 n c v0 v1=some o):Arr UB Try.f87 0 (FO n c) Nq (Aw Try.f87 0) (.rnd (Aw Try.f87 0)::AJ Try.f87 0) (FO n c (.l0 v0 v1)) o:=Scr.ok h mix (.rn 0 [] [] [] [] (al (al t3)) <|.br (fun a0=>.gu fun a1=>.el fun x55 a2=>.rn 1 [109] [(55,sA x55)] [] [] (aj a0 (aj (aj (k2 (aj a1 (Am (f:=sA) a2))) (u2 (ak (al (k2 n11))))) (al (u2 (u2 (u2 (al t3))))))) <|.br (fun a3=>.gu fun a4=>.gu fun a5=>.lq [121] [] [] [] [] [3] [1,9,51,52,53] (up [(9,AV.sl 0 0 ((Uu iv v0).length+[iv x55.b].length))] [(0,Uu iv v0++[iv x55.b])] (FO n c (.l0 (v0++[x55.b]) (i64.wrap (v1+1))))) (aj (aj a3 (aj (u2 (u2 (u2 (u2 (aj (k2 (aj (show(Uu iv v0).length=v0.length by simp) (aj (aj (show nat_lit 1=nat_lit 1 from rfl) (show 1<=[iv x55.b].length by simp)) (aj a4 a5)))) s2))))) (al (u2 s2)))) t7) (by simp[up,upF,upV,upH,upB,FO,gL,boL,lI,sA,bA])) (fun a3=>.lp [120] [] [] [] [] [0] [1,9,51,52,53] (aj (aj a3 (al (u2 s2))) t7))) (fun a0=>.rt [108] [] [] [] [] [0] (aj (aj a0 (al (u2 (u2 t2)))) (al (aj (show v0.length=(Uu iv v0).length by simp) t2))))) (by kernel_rfl)
theorem Qv(n:Aa)(c:Int)(r:Ret)(h:Ax (cnxStep n c) (Ip n c) r):CT UB 87 ([]) ([Ai n,.int .i64 c]) r.1 r.2:=
 CT.mach (fn:=Try.f87) (c:=zB Try.f87) (S:=FO n c) (hd:=Nq) Try.func87 (by kernel_rfl) (nL rfl)
  (fun s o ho=>match s,ho with
   | .l0 v0 v1,ho=>cnxS0_ok n c v0 v1 o ho
  )
  (fun o ho=>cnxEn_ok n c o ho) h
def nxS(n:Aa)(c:Int)(i:Nat):List Int:=n.nx.getD c.toNat []++((n.ss.take i).filter fun s=>s.i==c).map fun s=>s.b
theorem nxS_step{n:Aa}{c:Int}{i:Nat}(hi:i<n.ss.length):nxS n c (i+1)=if ((n.ss.getD i s0).i==c)=true then nxS n c i++[(n.ss.getD i s0).b] else nxS n c i:=by
 unfold nxS;rw[List.take_add_one,AP s0 hi,Option.toList_some,List.filter_append,TM];by_cases h:((n.ss.getD i s0).i==c)=true
 .rw[Tv h,List.filter_cons,Tv h,<-List.append_assoc];rfl
 .rw[Tw h,List.filter_cons,Tw h];simp
theorem nxS_len{n:Aa}(hrw:Rows n.nx)(hv:AB n){c:Int}(h0:0<=c)(h1:c<(n.bs.length:Int))(i:Nat):(nxS n c i).length<=100:=by
 have h2:=(hv.lanes hrw (show c.toNat<n.bs.length by omega)).2;have h3:=List.length_filter_le (fun s:Ao=>s.i==c) (n.ss.take i);have h4:(n.ss.take i).length<=n.ss.length:=by rw[T1];omega
 have ns:=hv.ns;unfold nxS;rw[TU,TA];omega
theorem nxS_all{n:Aa}{c:Int}(h:plF n c=none):nxS n c n.ss.length=D6 n c:=by unfold nxS D6;rw[h,List.take_length]
theorem Py{n:Aa}{c:Int}{i:Nat}(h:plF n c=some i):plI n c=(i:Int)/\plJ n c=c-(n.ss.getD i s0).b+1:=by unfold plI plJ;rw[h];exact⟨rfl,rfl⟩
theorem PJ{n:Aa}{c:Int}(h:plF n c=none):plI n c = -1:=by unfold plI;rw[h]
theorem cnext_c(n:Aa)(c:Int)(hrw:Rows n.nx):CT UB 87 [] [Ai n,.int .i64 c] [] (.tup [lI (nxO n c),.int .i64 (ckE n c)]):=by
 unfold nxO;by_cases h:ckE n c=0
 .obtain⟨hv,h0,h1⟩:=K5 h;have hce:=hv.cel;rw[Tv h,h];refine Qv n c ([],_) ?_;unfold Ip;rw[Ab hrw,Af (by rw[h];rfl),Ab hv,Ab (by omega)];cases hp:plF n c with
  | some i=>
   obtain⟨s,hs,hg,g1,g2,hl⟩:=Il hp;obtain⟨e1,e2⟩:=Py hp;unfold D6;rw[hp,e1,e2];simp only[hg];rw[An (AD (by omega)),Ab (by omega),TG,AF hs];unfold ED;by_cases hh:c=s.b+s.k-1
   .rw[Af (Ar (by omega)),AF hs,Tv hh];exact .ret _
   .rw[An (AD (by omega)),Tw hh,C0 (by omega) (by omega)];exact .ret _
  | none=>
   have hb:=JY hv h0 h1 hp;have hnl:=hv.nx;have hrl:=(hv.lanes hrw (show c.toNat<n.bs.length by omega)).2;rw[PJ hp,Af (by rfl),Ab h0,AF (AP [] (show c.toNat<n.nx.length by omega)),Ab (fun e he=>by obtain⟨x,_,rfl⟩:=T4.1 he;rfl),Ab (by simp only[TA];omega),Ab (by simp only[TA];omega),<-nxS_all hp];have e0:n.nx.getD c.toNat []=nxS n c 0:=by unfold nxS;simp
   rw[e0];refine CH (fun i=>Ey.l0 (nxS n c i) (i:Int)) n.ss.length (fun i hi h=>?_) ?_
   .refine .to (show G6 n c (nxS n c i) i=_ from ?_) h;have hsl:=nxS_len hrw hv h0 hb i;have ns:=hv.ns;unfold G6;rw[BB s0 hi,nxS_step hi,zW i (by omega)];by_cases hc:((n.ss.getD i s0).i==c)=true
    .rw[An hc,Tv hc,Ab (by simp only[TA,Uc];omega),Ab (by simp only[TA,Uc];omega)]
    .rw[Af (Uk.2 hc),Tw hc]
   .refine .to (show G6 n c _ n.ss.length=_ from ?_) (.ret _);unfold G6;rw[C3];rfl
 .rw[Tw h];exact(Qv n c ([],_) (.val (show Ip n c=_ by unfold Ip;rw[Ab hrw,An (Ul.2 h)]))).to rfl rfl
inductive EC where | l0 (v0:Int)
def Kv(n:Aa)(q w:Int):EC->St | .l0 v0=>St.mk 27 [(2,iv w),(17,UA (Uu iv (nxO n q))),(18,iv (iN (Uu iv (nxO n q)).length)),(19,iv v0)] []
def MY:EC->Nat | .l0 _=>0
def Ly(n:Aa)(q w:Int):Option (EC⊕Ret):=gu (Rows n.nx) <|some (.inl (.l0 ((0:Int))))
def E9(n:Aa)(q w:Int)(v0:Int):Option (EC⊕Ret):=br (decide (v0<iN (Uu iV (nxO n q)).length)) (gu (0<=v0) <|el (nxO n q) (v0.toNat) fun(x21:Int)=>br (x21==w) (some (.inr ([],bV true))) (some (.inl (.l0 (i64.wrap (v0+1)))))) (some (.inr ([],bV false)))
def folStep(n:Aa)(q w:Int):EC->Option (EC⊕Ret) | .l0 v0=>E9 n q w v0
theorem folEn_ok(n:Aa)(q w:Int)(o:EC⊕Ret)(h:Ly n q w=some o):Arr UB Try.f38 0 (Kv n q w) MY (zB Try.f38) [] {n:=Try.f38.ntmps,fr:=AH 0 ([Ai n,.int .i64 q,.int .i64 w]),hp:=([])} o:=Scr.ok h mix (.rn 0 [] [] [] [] (al (u2 t2)) <|.gu fun a0=>have c0:=cnext_c n q a0;.lp [] [] [(14,hK c0 [] [])] [] [] [] [2,17,18,19] (aj (aj (u2 (u2 (aj (k2 (aj t9 (ak (al (c0))))) (u2 (u2 (u2 (u2 s2))))))) (al (u2 (u2 t2)))) t5)) (by kernel_rfl)
theorem folS0_ok(n:Aa)(q w:Int)(v0:Int)(o:EC⊕Ret)(h:E9 n q w v0=some o):Arr UB Try.f38 0 (Kv n q w) MY (Aw Try.f38 0) (.rnd (Aw Try.f38 0)::AJ Try.f38 0) (Kv n q w (.l0 v0)) o:=Scr.ok h mix (.rn 0 [] [] [] [] (al (al t3)) <|.br (fun a0=>.gu fun a1=>.el fun x21 a2=>.rn 1 [41] [(21,iv x21)] [] [] (aj a0 (aj (aj (k2 (aj a1 (Am (f:=iv) a2))) (u2 s2)) (al (u2 (u2 (al t3)))))) <|.br (fun a3=>.rt [51] [] [] [] [] [] (aj (aj a3 s2) t2)) (fun a3=>.lp [50] [] [] [] [] [] [2,17,18,19] (aj (aj a3 (al (u2 s2))) t5))) (fun a0=>.rt [40] [] [] [] [] [] (aj (aj a0 s2) t2))) (by kernel_rfl)
theorem fol_ct(n:Aa)(q w:Int)(r:Ret)(h:Ax (folStep n q w) (Ly n q w) r):CT UB 38 ([]) ([Ai n,.int .i64 q,.int .i64 w]) r.1 r.2:=
 CT.mach (fn:=Try.f38) (c:=zB Try.f38) (S:=Kv n q w) (hd:=MY) Try.func38 (by kernel_rfl) (nL rfl)
  (fun s o ho=>match s,ho with
   | .l0 v0,ho=>folS0_ok n q w v0 o ho
  )
  (fun o ho=>folEn_ok n q w o ho) h
theorem OI(n:Aa)(q w:Int)(hrw:Rows n.nx):CT UB 38 [] [Ai n,.int .i64 q,.int .i64 w] [] (.bool (Dd n q w)):=by
 refine fol_ct n q w ([],_) ?_;have hl:=nxO_len hrw q;unfold Ly;rw[Ab hrw];refine(Kg (fun i=>EC.l0 (i:Int)) (nxO n q).length (fun i=>(nxO n q).getD i 0==w) (rF:=fun _=>([],.bool true)) (r:=([],.bool false)) (fun i hi hp=>?_) (fun i r hi hp hr=>?_) (fun _=>?_)).res ?_
 .refine .to (show E9 n q w i=_ from ?_) (.ret _);unfold E9;rw[BB 0 hi,An hp]
 .refine .to (show E9 n q w i=_ from ?_) hr;unfold E9;rw[BB 0 hi,Af hp,zW i (by omega)]
 .refine .to (show E9 n q w (nxO n q).length=_ from ?_) (.ret _);unfold E9;rw[C3]
 .unfold Dd Ay;cases fnd (fun i=>(nxO n q).getD i 0==w) 0 (nxO n q).length<;>rfl
end Go.Proofs.Ytedjkebooffjpaa
namespace Go.AX
variable {P:Program}
inductive Cb (P:Program) (m:Nat):List Oper->St->St->Prop | nil (st:St):Cb P m [] st st | cons {o:Oper} {r:List Oper} {st st':St} {R:OpR} (hg:o.guard=none) (hop:Au P o st.ev (nth st.hp) st.hp.length R) (hf:R.fits (nth st.hp)) (hd:∀b,b∈R.dead->m<=b) (hdst:∀d,o.dst=some d->d<st.n) (h:Cb P m r (st.app o.dst R) st'):Cb P m (o::r) st st'
theorem SP{m:Nat}{ops:Array Oper}{Q:Exit->Act->World->Prop}{A0:Nat->Prop}{n0:Nat}:∀{l:List Oper} {st st':St},Cb P m l st st'->
  ∀{φ:Phi} {a:Act} {w:World},m<=st.hp.length->Rel A0 n0 m φ st a w->
   (∀φ' a' w',m<=st'.hp.length->Rel A0 n0 m φ' st' a' w'->Tr m φ st.h w φ' st'.h w'->Q .normal a' w')->wpList P ops Q l a w:=by
 intro l st st' h;induction h with
 | nil st=>intro φ a w hm hr k;exact k φ a w hm hr (.refl _ _ _ _)
 | @cons o r st st' R hg hop hf hd hdst h ih=>
  intro φ a w hm hr k;have hm':m<=(st.app o.dst R).hp.length:=by simp[St.app,ES,E2];omega
  unfold wpList;rw[Tv (Jf (φ:=φ) (A:=Ok A0 n0 φ st.h w) (w:=w) fun k want hk=>by rw[hg] at hk;cases hk)];left;refine hop φ (Ok A0 n0 φ st.h w) w a _ _ (fun r hA=>⟨hA.2.1,hA.2.2⟩) hr.ev hr.heap hr.out fun v' w' φ' he=>?_
  obtain⟨s1,s2⟩:=hr.step hm hd hdst hf he;exact ih hm' s1 fun φ2 a2 w2 g1 g2 g3=>k φ2 a2 w2 g1 g2 (s2.trans g3)
set_option linter.unusedVariables false in
theorem T.ops{m id:Nat}{ops:Array Oper}{st st':St}{post:Exit->St->Prop}(h:Cb P m ops.toList st st')(hpost:post .normal st'):T P m (.region id ops false) st post:=fun A0 n0 φ a w hm hr=>wp_region_list (SP h hm hr fun φ' a' w' g1 g2 g3=>⟨φ',_,hpost,g2,g1,g3⟩)
theorem IA:∀(l:List (Option Blk)) (i:Nat),Ch [] [] i l=l | [],_=>rfl | x::r,i=>by simp only[Ch,Cd,Bh];rw[IA r]
theorem MQ(b:Nat):∀(l:List (Option Blk)) (i:Nat),i<=b->Ch [b] [] i l=l.set (b-i) none
 | [],_,_=>by simp[Ch]
 | x::r,i,h=>by
  simp only[Ch,Cd,Bh];by_cases hb:b=i
  .subst hb;rw[Nat.beq_refl,Tg];have:∀(l:List (Option Blk)) (j:Nat),b<j->Ch [b] [] j l=l:=by
    intro l;induction l with
    | nil=>intro j _;rfl
    | cons y r ih=>
     intro j hj;have hne:Nat.beq b j=false:=by cases hq:Nat.beq b j with | false=>rfl | true=>exact absurd (TE hq) (by omega)
     simp only[Ch,Cd,Bh,hne];rw[ih (j+1) (by omega)]
   rw[this r (b+1) (by omega)];rfl
  .have hne:Nat.beq b i=false:=by cases hq:Nat.beq b i with | false=>rfl | true=>exact absurd (TE hq) hb
   rw[hne,MQ b r (i+1) (by omega),show b-i=(b-(i+1))+1 by omega];rfl
theorem Qw(b:Nat)(blk:Blk):∀(l:List (Option Blk)) (i:Nat),i<=b->Ch [] [(b,blk)] i l=l.set (b-i) (some blk)
 | [],_,_=>by simp[Ch]
 | x::r,i,h=>by
  simp only[Ch,Cd,Bh];by_cases hb:b=i
  .subst hb;rw[Nat.beq_refl,Tg];have:∀(l:List (Option Blk)) (j:Nat),b<j->Ch [] [(b,blk)] j l=l:=by
    intro l;induction l with
    | nil=>intro j _;rfl
    | cons y r ih=>
     intro j hj;have hne:Nat.beq b j=false:=by cases hq:Nat.beq b j with | false=>rfl | true=>exact absurd (TE hq) (by omega)
     simp only[Ch,Cd,Bh,hne];rw[ih (j+1) (by omega)]
   rw[this r (b+1) (by omega)];rfl
  .have hne:Nat.beq b i=false:=by cases hq:Nat.beq b i with | false=>rfl | true=>exact absurd (TE hq) hb
   rw[hne,Qw b blk r (i+1) (by omega),show b-i=(b-(i+1))+1 by omega];rfl
variable {m:Nat} {o:Oper} {r:List Oper} {n:Nat} {fr:List (Nat×AV)} {hp:List (Option Blk)} {st':St}
theorem Cb.val{d:Nat}{v:AV}(hg:o.guard=none)(ho:o.dst=some d)(hd:d<n)(hop:Au P o (St.ev ⟨n,fr,hp⟩) (nth hp) hp.length {v})(h:Cb P m r ⟨n,(d,v)::fr,hp⟩ st'):Cb P m (o::r) ⟨n,fr,hp⟩ st':=by
 refine .cons hg hop (OpR.fits_value _ _) (fun b hb=>by simp at hb) (fun d' h'=>by rw[ho] at h';cases h';exact hd) ?_;have e:St.app ⟨n,fr,hp⟩ o.dst {v}=⟨n,(d,v)::fr,hp⟩:=by unfold St.app;rw[ho];simp only[put,IA,BI,List.append_nil]
 rw[e];exact h
theorem Cb.new{d:Nat}{v:AV}{blk:Blk}(hg:o.guard=none)(ho:o.dst=some d)(hd:d<n)(hop:Au P o (St.ev ⟨n,fr,hp⟩) (nth hp) hp.length {v,new:=[blk]})(h:Cb P m r ⟨n,(d,v)::fr,hp++[some blk]⟩ st'):Cb P m (o::r) ⟨n,fr,hp⟩ st':=by
 refine .cons hg hop ⟨fun b blk hm=>by simp at hm,fun b hm=>by simp at hm⟩ (fun b hb=>by simp at hb) (fun d' h'=>by rw[ho] at h';cases h';exact hd) ?_;have e:St.app ⟨n,fr,hp⟩ o.dst {v,new:=[blk]}=⟨n,(d,v)::fr,hp++[some blk]⟩:=by unfold St.app;rw[ho];simp only[put,IA,BI]
 rw[e];exact h
theorem Cb.move{d b:Nat}{v:AV}{blk blk0:Blk}(hg:o.guard=none)(ho:o.dst=some d)(hd:d<n)(hb:nth hp b=some blk0)(hw:blk0.wr=true)(hm:m<=b)(hop:Au P o (St.ev ⟨n,fr,hp⟩) (nth hp) hp.length {v,dead:=[b],new:=[blk]})
  (h:Cb P m r ⟨n,(d,v)::fr,hp.set b none++[some blk]⟩ st'):Cb P m (o::r) ⟨n,fr,hp⟩ st':=by
 refine .cons hg hop ⟨fun b blk hm=>by simp at hm,fun b' hm'=>by simp at hm';subst hm';exact⟨⟨blk0,hb,hw⟩,rfl⟩⟩ (fun b' hb'=>by simp at hb';subst hb';exact hm) (fun d' h'=>by rw[ho] at h';cases h';exact hd) ?_;have e:St.app ⟨n,fr,hp⟩ o.dst {v,dead:=[b],new:=[blk]}=⟨n,(d,v)::fr,hp.set b none++[some blk]⟩:=by unfold St.app;rw[ho];simp only[put,MQ b hp 0 (TJ _),BI,Nat.sub_zero]
 rw[e];exact h
theorem Cb.chg{b:Nat}{v:AV}{blk blk0:Blk}(hg:o.guard=none)(ho:o.dst=none)(hb:nth hp b=some blk0)(hw:blk0.wr=true)(hop:Au P o (St.ev ⟨n,fr,hp⟩) (nth hp) hp.length {v,chg:=[(b,blk)]})
  (h:Cb P m r ⟨n,fr,hp.set b (some blk)⟩ st'):Cb P m (o::r) ⟨n,fr,hp⟩ st':=by
 refine .cons hg hop (GO hb hw) (fun b' hb'=>by simp at hb') (fun d' h'=>by rw[ho] at h';cases h') ?_;have e:St.app ⟨n,fr,hp⟩ o.dst {v,chg:=[(b,blk)]}=⟨n,fr,hp.set b (some blk)⟩:=by unfold St.app;rw[ho];simp only[put,Qw b blk hp 0 (TJ _),BI,Nat.sub_zero,List.append_nil]
 rw[e];exact h
theorem Ren.slots{m n:Nat}{fr fr':List (Nat×AV)}{hp:List (Option Blk)}(h:∀s,Aq fr' s = .unk\/Aq fr' s=Aq fr s):Ren m ⟨n,fr,hp⟩ ⟨n,fr',hp⟩:=by
 intro A0 n0 φ a w hm hr;refine⟨φ,⟨hr.defs,hr.size,fun s=>?_,hr.heap,hr.out,hr.base,hr.own⟩,hm,.refl m φ _ w⟩;show VR _ _ _ (Aq fr' s) _;rcases h s with h | h
 .rw[h];exact .imm _ _ (.unk _)
 .rw[h];exact hr.slot s
end Go.AX
namespace Go.Proofs.Ytedjkebooffjpaa
theorem _root_.Go.AX.Cb.av{P:Program}{m:Nat}{o:Oper}{r:List Oper}{n d:Nat}{fr:List (Nat×AV)}{hp:List (Option Blk)}{st':St}(v:AV)(hg:o.guard=none)(ho:o.dst=some d)(hd:Nat.ble (d+1) n=true)(h:aop P o (St.ev ⟨n,fr,hp⟩) hp .no=some ({v},True))(k:Cb P m r ⟨n,(d,v)::fr,hp⟩ st'):Cb P m (o::r) ⟨n,fr,hp⟩ st':=.val hg ho (TY hd) (HE h trivial).1 k
theorem JK{hp:List (Option Blk)}{c:Nat}{x:Blk}(h:nth hp c=some x):c<hp.length:=by
 rw[DI] at h;rcases Ut c hp.length with h1 | h1
 .exact h1
 .rw[TX h1] at h;cases h
theorem Rz{k:Nat}{v:AV}{l:List (Nat×AV)}{s:Nat}(h:k≠s):AX.Aq ((k,v)::l) s=AX.Aq l s:=by
 have:Nat.beq k s=false:=by cases hq:Nat.beq k s with | false=>rfl | true=>exact absurd (TE hq) h
 simp only[AX.Aq,this]
def Nt(fr fr':List (Nat×AV)):List Nat->Prop | []=>True | k::ks=>AX.Aq fr' k=AX.Aq fr k/\Nt fr fr' ks
theorem PU:∀{l:List (Nat×AV)} {s:Nat},s∉l.map (·.1)->AX.Aq l s = .unk
 | [],_,_=>rfl
 | (k,v)::l,s,h=>by rw[Rz (fun e=>h (by simp[e])),PU (fun e=>h (TR _ e))]
theorem O5{fr fr':List (Nat×AV)}:∀{ks:List Nat},Nt fr fr' ks->∀s∈ks,AX.Aq fr' s=AX.Aq fr s | [],_,s,h=>by cases h | k::ks,h,s,hs=>(T2.1 hs).elim (fun e=>by rw[e];exact h.1) (O5 h.2 s)
theorem _root_.Go.AX.Ren.keys{m n:Nat}{fr fr':List (Nat×AV)}{hp:List (Option Blk)}(h:Nt fr fr' (fr'.map (·.1))):Ren m ⟨n,fr,hp⟩ ⟨n,fr',hp⟩:=Ren.slots fun s=>if hs:s∈fr'.map (·.1) then .inr (O5 h s hs) else .inl (PU hs)
inductive Rcv (g:List (List Int)) (s:List Bool) (v:Nat):Nat->Prop | refl (h:s.getD v true=false):Rcv g s v v | step {u w:Nat} (h:Rcv g s v u) (hw:(w:Int)∈g.getD u []) (ho:s.getD w true=false):Rcv g s v w
theorem Rcv.lt{g:List (List Int)}{s:List Bool}{v k:Nat}(hs:s.length=g.length)(h:Rcv g s v k):k<g.length:=by
 have key:∀x,s.getD x true=false->x<g.length:=fun x hx=>by
  rcases Ut x s.length with h | h
  .omega
  .rw[Ty,TX h] at hx;cases hx
 cases h with
 | refl h=>exact key _ h
 | step _ _ ho=>exact key _ ho
end Go.Proofs.Ytedjkebooffjpaa
namespace Go.AX
variable {P:Program}
def Kl(P:Program)(o:Oper)(ev:Operand->AV)(h:Hp)(nb:Nat)(S:OpR->Prop):Prop:=∀(φ:Phi) (A:Nat->Prop) (w:World) (a:Act) (K:Act->World->Prop) (Q:Exit->Act->World->Prop),(∀r,A r->r<w.heap.size/\¬Mut φ h r)->(∀x,VR φ A w (ev x) (a.eval x))->HR φ A w h->(∀b,nb<=b->φ b=none)-> (∀R v' w' φ',S R->Eff φ A w h nb R v' w' φ'->K (a.put o.dst v') w')->o.wp P a w K Q
inductive Cl (P:Program) (m:Nat) (ops:Array Oper):List Oper->St->(St->Prop)->Prop | nil {st:St} {k:St->Prop} (h:k st):Cl P m ops [] st k | one {o:Oper} {r:List Oper} {st:St} {k:St->Prop} {S:OpR->Prop} (hg:∀kk want,o.guard=some (kk,want)->∃g,(ops[kk]?).bind (·.dst)=some g/\Aq st.fr g = .bool want) (hop:Kl P o st.ev (nth st.hp) st.hp.length S) (hf:∀R,S R->R.fits (nth st.hp)/\(∀b,b∈R.dead->m<=b)/\∀d,o.dst=some d->d<st.n) (h:∀R,S R->Cl P m ops r (st.app o.dst R) k):Cl P m ops (o::r) st k | skip {o:Oper} {r:List Oper} {st:St} {k:St->Prop} {kk g:Nat} {want:Bool} (hg:o.guard=some (kk,want)) (hk:(ops[kk]?).bind (·.dst)=some g) (hv:Aq st.fr g = .bool (!want)) (hd:∀d,o.dst=some d->d<st.n) (h:Cl P m ops r (st.app o.dst {v:=.tup []}) k):Cl P m ops (o::r) st k
theorem S9{m:Nat}{ops:Array Oper}{Q:Exit->Act->World->Prop}{A0:Nat->Prop}{n0:Nat}:∀{l:List Oper} {st:St} {k:St->Prop},Cl P m ops l st k->
  ∀{φ:Phi} {a:Act} {w:World},m<=st.hp.length->Rel A0 n0 m φ st a w->
   (∀st' φ' a' w',k st'->m<=st'.hp.length->Rel A0 n0 m φ' st' a' w'->Tr m φ st.h w φ' st'.h w'->Q .normal a' w')->wpList P ops Q l a w:=by
 intro l st k h;induction h with
 | nil h=>intro φ a w hm hr K;exact K _ φ a w h hm hr (.refl _ _ _ _)
 | @one o r st k S hg hop hf h ih=>
  intro φ a w hm hr K;unfold wpList;rw[Tv (Jf (φ:=φ) (A:=Ok A0 n0 φ st.h w) (w:=w) fun kk want hk=>by
   obtain⟨g,g1,g2⟩:=hg kk want hk;exact⟨g,g1,by rw[<-g2];exact hr.slot g⟩)]
  left;refine hop φ (Ok A0 n0 φ st.h w) w a _ _ (fun r hA=>⟨hA.2.1,hA.2.2⟩) hr.ev hr.heap hr.out fun R v' w' φ' hS he=>?_
  obtain⟨f1,f2,f3⟩:=hf R hS;have hm':m<=(st.app o.dst R).hp.length:=by simp[St.app,ES,E2];omega
  obtain⟨s1,s2⟩:=hr.step hm f2 f3 f1 he;exact ih R hS hm' s1 fun st2 φ2 a2 w2 g0 g1 g2 g3=>K st2 φ2 a2 w2 g0 g1 g2 (s2.trans g3)
 | @skip o r st k kk g want hg hk hv hd h ih=>
  intro φ a w hm hr K;unfold wpList;rw[Tw (by rw[Na hg hk (.inl hv) (hr.slot g)];simp)];have he:Eff φ (Ok A0 n0 φ st.h w) w st.h st.hp.length {v:=.tup []} undef w φ:=Eff.skip hr.out;have hm':m<=(st.app o.dst {v:=.tup []}).hp.length:=by simp[St.app,ES,E2];omega
  obtain⟨s1,s2⟩:=hr.step hm (fun b hb=>by simp at hb) hd (OpR.fits_value _ _) he;exact ih hm' s1 fun st2 φ2 a2 w2 g0 g1 g2 g3=>K st2 φ2 a2 w2 g0 g1 g2 (s2.trans g3)
set_option linter.unusedVariables false in
theorem T.opsN{m id:Nat}{ops:Array Oper}{st:St}{post:Exit->St->Prop}(h:Cl P m ops ops.toList st (post .normal)):T P m (.region id ops false) st post:=fun A0 n0 φ a w hm hr=>wp_region_list (S9 h hm hr fun st' φ' a' w' g0 g1 g2 g3=>⟨φ',_,g0,g2,g1,g3⟩)
theorem Au.s{o:Oper}{ev:Operand->AV}{h:Hp}{nb:Nat}{R:OpR}(hop:Au P o ev h nb R):Kl P o ev h nb (fun R'=>R'=R):=fun φ A w a K Q h1 h2 h3 h4 h5=>hop φ A w a K Q h1 h2 h3 h4 fun v' w' φ' he=>h5 R v' w' φ' rfl he
theorem Cl.val{m:Nat}{ops:Array Oper}{o:Oper}{r:List Oper}{n:Nat}{fr:List (Nat×AV)}{hp:List (Option Blk)}{k:St->Prop}{d:Nat}{v:AV}(hg:∀kk want,o.guard=some (kk,want)->∃g,(ops[kk]?).bind (·.dst)=some g/\Aq fr g = .bool want)(ho:o.dst=some d)(hd:d<n)(hop:Au P o (St.ev ⟨n,fr,hp⟩) (nth hp) hp.length {v})(h:Cl P m ops r ⟨n,(d,v)::fr,hp⟩ k):Cl P m ops (o::r) ⟨n,fr,hp⟩ k:=by
 refine .one hg hop.s (fun R' e=>by subst e;exact⟨OpR.fits_value _ _,fun b hb=>by simp at hb,fun d' h'=>by rw[ho] at h';cases h';exact hd⟩) (fun R' e=>?_);subst e;have e:St.app ⟨n,fr,hp⟩ o.dst {v}=⟨n,(d,v)::fr,hp⟩:=by unfold St.app;rw[ho];simp only[put,IA,BI,List.append_nil]
 rw[e];exact h
theorem Cl.new{m:Nat}{ops:Array Oper}{o:Oper}{r:List Oper}{n:Nat}{fr:List (Nat×AV)}{hp:List (Option Blk)}{k:St->Prop}{d:Nat}{v:AV}{blk:Blk}(hg:∀kk want,o.guard=some (kk,want)->∃g,(ops[kk]?).bind (·.dst)=some g/\Aq fr g = .bool want)(ho:o.dst=some d)(hd:d<n)(hop:Au P o (St.ev ⟨n,fr,hp⟩) (nth hp) hp.length {v,new:=[blk]})(h:Cl P m ops r ⟨n,(d,v)::fr,hp++[some blk]⟩ k):Cl P m ops (o::r) ⟨n,fr,hp⟩ k:=by
 refine .one hg hop.s (fun R' e=>by subst e;exact⟨⟨fun b blk hm=>by simp at hm,fun b hm=>by simp at hm⟩,fun b hb=>by simp at hb,fun d' h'=>by rw[ho] at h';cases h';exact hd⟩) (fun R' e=>?_);subst e;have e:St.app ⟨n,fr,hp⟩ o.dst {v,new:=[blk]}=⟨n,(d,v)::fr,hp++[some blk]⟩:=by unfold St.app;rw[ho];simp only[put,IA,BI]
 rw[e];exact h
theorem noG{ops:Array Oper}{o:Oper}{fr:List (Nat×AV)}(h:o.guard=none):∀kk want,o.guard=some (kk,want)->∃g,(ops[kk]?).bind (·.dst)=some g/\Aq fr g = .bool want:=fun kk want e=>by rw[h] at e;cases e
def QApp(nb b i z:Nat)(es src:List AV)(flat:Bool)(R:OpR):Prop:=∃es' i',i'<=es'.length/\es'.drop i'=es.drop i++src/\es'.length<=es.length+src.length/\R={v:=.sl nb i' (es'.length-i'),dead:=[b],new:=[{es:=es',z,flat}]}
theorem Cl.q{m:Nat}{o:Oper}{r:List Oper}{n d b i z:Nat}{fr:List (Nat×AV)}{hp:List (Option Blk)}{es src:List AV}{flat:Bool}{blk0:Blk}{k:St->Prop}{ops:Array Oper}(hg:o.guard=none)(ho:o.dst=some d)(hd:d<n)
  (hb:nth hp b=some blk0) (hw:blk0.wr=true) (hm:m<=b) (hop:Kl P o (St.ev ⟨n,fr,hp⟩) (nth hp) hp.length (QApp hp.length b i z es src flat))
  (h:∀es' i',i'<=es'.length->es'.drop i'=es.drop i++src->es'.length<=es.length+src.length->Cl P m ops r ⟨n,(d,.sl hp.length i' (es'.length-i'))::fr,hp.set b none++[some {es:=es',z,flat}]⟩ k):Cl P m ops (o::r) ⟨n,fr,hp⟩ k:=by
 refine .one (noG hg) hop (fun R hR=>?_) fun R hR=>?_
 .obtain⟨es',i',h1,h2,h3,rfl⟩:=hR;exact⟨⟨fun b blk hm=>by simp at hm,fun b' hm'=>by simp at hm';subst hm';exact⟨⟨blk0,hb,hw⟩,rfl⟩⟩,fun b' hb'=>by simp at hb';subst hb';exact hm,fun d' h'=>by rw[ho] at h';cases h';exact hd⟩
 .obtain⟨es',i',h1,h2,h3,rfl⟩:=hR;have e:St.app ⟨n,fr,hp⟩ o.dst {v:=.sl hp.length i' (es'.length-i'),dead:=[b],new:=[{es:=es',z,flat}]}=⟨n,(d,.sl hp.length i' (es'.length-i'))::fr,hp.set b none++[some {es:=es',z,flat}]⟩:=by unfold St.app;rw[ho];simp only[put,MQ b hp 0 (TJ _),BI,Nat.sub_zero]
  rw[e];exact h es' i' h1 h2 h3
end Go.AX
namespace Go.Proofs.Ytedjkebooffjpaa
theorem _root_.Go.AX.Cl.av{P:Program}{m:Nat}{ops:Array Oper}{o:Oper}{r:List Oper}{n d:Nat}{fr:List (Nat×AV)}{hp:List (Option Blk)}{k:St->Prop}(v:AV)(hg:o.guard=none)(ho:o.dst=some d)(hd:Nat.ble (d+1) n=true)(h:aop P o (St.ev ⟨n,fr,hp⟩) hp .no=some ({v},True))(q:Cl P m ops r ⟨n,(d,v)::fr,hp⟩ k):Cl P m ops (o::r) ⟨n,fr,hp⟩ k:=.val (noG hg) ho (TY hd) (HE h trivial).1 q
def ckSSt(n:Aa)(sp:Int):Empty->St | x=>x.elim
def ckSHd:Empty->Nat | x=>x.elim
def LJ(n:Aa)(sp:Int):Option (Empty⊕Ret):=gu (Rows n.nx) <|br (!AZ n) (some (.inr ([],iV 20))) (br (decide (sp<0)) (some (.inr ([],iV 19))) (br (decide (iN (Uu sA n.ss).length<=sp)) (some (.inr ([],iV 19))) (some (.inr ([],iV 0)))))
def ckSStep(n:Aa)(sp:Int):Empty->Option (Empty⊕Ret) | x=>x.elim
theorem ckSEn_ok(n:Aa)(sp:Int)(o:Empty⊕Ret)(h:LJ n sp=some o):Arr UB Try.f86 0 (ckSSt n sp) ckSHd (zB Try.f86) [] {n:=Try.f86.ntmps,fr:=AH 0 ([Ai n,.int .i64 sp]),hp:=([])} o:=Scr.ok h mix (.rn 0 [] [] [] [] (al (u2 t2)) <|.gu fun a0=>have c0:=Nz a0;.rn 0 [] [] [(7,hK c0 [] [])] [] (al (u2 (aj (ak (aj t9 (al (c0)))) (u2 s2)))) <|.br (fun a1=>.rt [11] [] [] [] [] [] (aj (aj a1 s2) t2)) (fun a1=>.br (fun a2=>.rt [10,25] [] [] [] [] [] (aj (aj a1 (aj (u2 (u2 (u2 (aj a2 (aj a2 (aj a2 (aj a2 (aj a2 (ag a2 s2))))))))) (ak s2))) t2)) (fun a2=>.rn 0 [10,24] [] [] [] (aj a1 (al (u2 (u2 (u2 (ag a2 (ag a2 (ag a2 (ag a2 (aj (aj a2 t3) (ag a2 s2))))))))))) <|.br (fun a3=>.rt [24,19] [] [] [] [] [] (aj (aj a3 s2) t2)) (fun a3=>.rt [24,18] [] [] [] [] [] (aj (aj a3 s2) t2))))) (by kernel_rfl)
theorem ckS_ct(n:Aa)(sp:Int)(r:Ret)(h:Ax (ckSStep n sp) (LJ n sp) r):CT UB 86 ([]) ([Ai n,.int .i64 sp]) r.1 r.2:=
 CT.mach (fn:=Try.f86) (c:=zB Try.f86) (S:=ckSSt n sp) (hd:=ckSHd) Try.func86 (by kernel_rfl) (nL rfl)
  (fun s o ho=>match s,ho with
   | x,_=>x.elim)
  (fun o ho=>ckSEn_ok n sp o ho) h
def cntSt(n:Aa):Empty->St | x=>x.elim
def cntHd:Empty->Nat | x=>x.elim
def Lr(n:Aa):Option (Empty⊕Ret):=gu (Rows n.nx) <|br (!AZ n) (some (.inr ([],AV.tup [iV 0,iV 20]))) (gu (AB n) <|some (.inr ([],AV.tup [iV (iN (AA n)),iV 0])))
def cntStep(n:Aa):Empty->Option (Empty⊕Ret) | x=>x.elim
theorem cntEn_ok(n:Aa)(o:Empty⊕Ret)(h:Lr n=some o):Arr UB Try.f43 0 (cntSt n) cntHd (zB Try.f43) [] {n:=Try.f43.ntmps,fr:=AH 0 ([Ai n]),hp:=([])} o:=Scr.ok h mix (.rn 0 [] [] [] [] (al (u2 t3)) <|.gu fun a0=>have c0:=Nz a0;.rn 0 [] [] [(5,hK c0 [] [])] [] (al (u2 (aj (ak (aj t9 (al (c0)))) s2))) <|.br (fun a1=>.rt [13] [] [] [] [] [] (aj (aj a1 (al t3)) (al t3))) (fun a1=>.gu fun a2=>have c1:=Pm a2;.rt [12] [] [(8,hK c1 [] [])] [] [] [] (aj (aj a1 (al (u2 (aj (ak (aj t9 (al (c1)))) (u2 t2))))) (al t3)))) (by kernel_rfl)
theorem cnt_ct(n:Aa)(r:Ret)(h:Ax (cntStep n) (Lr n) r):CT UB 43 ([]) ([Ai n]) r.1 r.2:=
 CT.mach (fn:=Try.f43) (c:=zB Try.f43) (S:=cntSt n) (hd:=cntHd) Try.func43 (by kernel_rfl) (nL rfl)
  (fun s o ho=>match s,ho with
   | x,_=>x.elim)
  (fun o ho=>cntEn_ok n o ho) h
def csE(n:Aa)(sp:Int):Int:=if AZ n=true then (if sp<0\/(n.ss.length:Int)<=sp then 19 else 0) else 20
theorem RK{n:Aa}(hrw:Rows n.nx)(sp:Int):CT UB 86 [] [Ai n,.int .i64 sp] [] (.int .i64 (csE n sp)):=by
 refine ckS_ct n sp ([],_) (.val ?_);unfold LJ csE;rw[Ab hrw];cases hv:AZ n with
 | false=>rfl
 | true=>
  rw[Af (by rfl),Tv rfl];by_cases h0:sp<0
  .rw[An (AD h0),Tv (.inl h0)]
  by_cases h1:(n.ss.length:Int)<=sp
  .rw[Af (Ar h0),An (AD (by simpa [iN] using h1)),Tv (.inr h1)]
  .rw[Af (Ar h0),Af (Ar (by simpa [iN] using h1)),Tw (by omega)]
def H1(n:Aa):Int:=if AZ n=true then (AA n:Int) else 0
def Jh(n:Aa):Int:=if AZ n=true then 0 else 20
theorem cnt_c{n:Aa}(hrw:Rows n.nx):CT UB 43 [] [Ai n] [] (.tup [.int .i64 (H1 n),.int .i64 (Jh n)]):=by
 refine cnt_ct n ([],_) (.val ?_);unfold Lr H1 Jh;rw[Ab hrw];cases hv:AZ n with
 | false=>rfl
 | true=>rw[Af (by rfl),Ab (Cy.1 hv)];rfl
theorem Rcv.trans{g:List (List Int)}{s:List Bool}{a b c:Nat}(h:Rcv g s a b)(k:Rcv g s b c):Rcv g s a c:=by
 induction k with
 | refl _=>exact h
 | step _ hw ho ih=>exact .step ih hw ho
section
variable {n:Nat} {ok:Nat->Bool} {L:Nat->Nat->Bool}
structure GK(n:Nat)(ok:Nat->Bool)(L:Nat->Nat->Bool)(mk mk':List Bool):Prop where
 len:mk'.length=mk.length
 mono:∀x,mk.getD x false=true->mk'.getD x false=true
 sound:∀P:Nat->Prop,(∀b c,b<n->c<n->P c->ok b=true->L b c=true->P b)->(∀x,mk.getD x false=true->P x)->∀x,mk'.getD x false=true->P x
theorem GK.refl(mk:List Bool):GK n ok L mk mk:=⟨rfl,fun _ h=>h,fun _ _ h=>h⟩
theorem GK.trans{a b c:List Bool}(h:GK n ok L a b)(k:GK n ok L b c):GK n ok L a c:=⟨k.len.trans h.len,fun x hx=>k.mono x (h.mono x hx),fun P hP ha=>k.sound P hP (h.sound P hP ha)⟩
end
structure Ad where
 cl:List Bool
 bw:List Int
 pe:List Int
structure Al where
 ow:List Int
 qu:List (List Int)
def sgA(s:Ad):AV:=.agg [.lst (boL s.cl),lI s.bw,lI s.pe]
def lkA(l:Al):AV:=.agg [lI l.ow,.lst (gL l.qu)]
inductive EI where | l0 (v0:Int)
def KH(l:List Int)(q:Int):EI->St | .l0 v0=>St.mk 19 [(0,UA (Uu iv l)),(1,iv q),(7,iv (iN (Uu iv l).length)),(8,iv v0)] []
def Li:EI->Nat | .l0 _=>0
def idxEn(l:List Int)(q:Int):Option (EI⊕Ret):=some (.inl (.l0 ((0:Int))))
def Fo(l:List Int)(q v0:Int):Option (EI⊕Ret):=br (decide (v0<iN (Uu iV l).length)) (gu (0<=v0) <|el l (v0.toNat) fun(x14:Int)=>br (q==x14) (some (.inr ([],iV v0))) (some (.inl (.l0 (i64.wrap (v0+1)))))) (some (.inr ([],iV (-1))))
def idxStep(l:List Int)(q:Int):EI->Option (EI⊕Ret) | .l0 v0=>Fo l q v0
theorem idxEn_ok(l:List Int)(q:Int)(o:EI⊕Ret)(h:idxEn l q=some o):Arr UB Try.f96 0 (KH l q) Li (zB Try.f96) [] {n:=Try.f96.ntmps,fr:=AH 0 ([lI l,.int .i64 q]),hp:=([])} o:=Scr.ok h mix (.lp [] [] [] [] [] [] [0,1,7,8] (aj (u2 (al (u2 (u2 t2)))) t5)) (by kernel_rfl)
theorem idxS0_ok(l:List Int)(q v0:Int)(o:EI⊕Ret)(h:Fo l q v0=some o):Arr UB Try.f96 0 (KH l q) Li (Aw Try.f96 0) (.rnd (Aw Try.f96 0)::AJ Try.f96 0) (KH l q (.l0 v0)) o:=Scr.ok h mix (.rn 0 [] [] [] [] (al (al t3)) <|.br (fun a0=>.rn 0 [19] [] [] [] (aj a0 (al (u2 s2))) <|.gu fun a1=>.el fun x14 a2=>.rn 0 [] [(14,iv x14)] [] [] (al (u2 (u2 (u2 (aj (k2 (aj a1 (Am (f:=iv) a2))) (u2 (al t3))))))) <|.br (fun a3=>.rt [33] [] [] [] [] [] (aj (aj a3 (al (u2 s2))) t2)) (fun a3=>.lp [32] [] [] [] [] [] [0,1,7,8] (aj (aj a3 (al (u2 s2))) t5))) (fun a0=>.rt [18] [] [] [] [] [] (aj (aj a0 s2) t2))) (by kernel_rfl)
theorem idx_ct(l:List Int)(q:Int)(r:Ret)(h:Ax (idxStep l q) (idxEn l q) r):CT UB 96 ([]) ([lI l,.int .i64 q]) r.1 r.2:=
 CT.mach (fn:=Try.f96) (c:=zB Try.f96) (S:=KH l q) (hd:=Li) Try.func96 (by kernel_rfl) (nL rfl)
  (fun s o ho=>match s,ho with
   | .l0 v0,ho=>idxS0_ok l q v0 o ho
  )
  (fun o ho=>idxEn_ok l q o ho) h
def isrSt(q:Int):Empty->St | x=>x.elim
def isrHd:Empty->Nat | x=>x.elim
def Lt(q:Int):Option (Empty⊕Ret):=br (decide (0<=q)) (some (.inr ([],bV (decide (q<8))))) (some (.inr ([],bV false)))
def isrStep(q:Int):Empty->Option (Empty⊕Ret) | x=>x.elim
theorem isrEn_ok(q:Int)(o:Empty⊕Ret)(h:Lt q=some o):Arr UB Try.f98 0 (isrSt q) isrHd (zB Try.f98) [] {n:=Try.f98.ntmps,fr:=AH 0 ([.int .i64 q]),hp:=([])} o:=Scr.ok h mix (.rn 0 [] [] [] [] s2 <|.br (fun a0=>.rt [11] [] [] [] [] [] (aj (al (u2 (u2 (u2 (ag a0 (ag a0 (ag a0 s2))))))) t2)) (fun a0=>.rt [10] [] [] [] [] [] (aj (al (u2 (u2 (u2 (aj a0 (aj a0 (ag a0 s2))))))) t2))) (by kernel_rfl)
theorem isr_ct(q:Int)(r:Ret)(h:Ax (isrStep q) (Lt q) r):CT UB 98 ([]) ([.int .i64 q]) r.1 r.2:=
 CT.mach (fn:=Try.f98) (c:=zB Try.f98) (S:=isrSt q) (hd:=isrHd) Try.func98 (by kernel_rfl) (nL rfl)
  (fun s o ho=>match s,ho with
   | x,_=>x.elim)
  (fun o ho=>isrEn_ok q o ho) h
inductive ET where | l0 (v0:Int) (v1:List Bool)
def Hu(q:Ad):ET->St | .l0 v0 v1=>St.mk 23 [(1,AV.ptr 0 0 0),(3,AV.sl 1 0 (boL q.cl).length),(4,iv v0)] [some (bK [AV.agg [UA (boL q.cl),UA (Uu iv q.bw),UA (Uu iv q.pe)]] 3),some (bK (Uu bV v1) 1)]
def Nu:ET->Nat | .l0 _ _=>0
def MZ(q:Ad):Option (ET⊕Ret):=gu (∀(e:AV),e∈boL q.cl->e.cells.length=1) <|gu ((boL q.cl).length<=9223372036854775807) <|gu ((boL q.cl).length * 1<=140737488355328) <|some (.inl (.l0 ((0:Int)) (q.cl)))
def G3(q:Ad)(v0:Int)(v1:List Bool):Option (ET⊕Ret):=br (decide (v0<iN (Uu iV q.pe).length)) (gu (0<=v0) <|el (q.pe) (v0.toNat) fun(x19:Int)=>gu (0<=x19) <|gu (x19<iN (boL q.cl).length) <|gu ((0+x19.toNat).succ.le (Uu bV v1).length) <|some (.inl (.l0 (i64.wrap (v0+1)) (v1.set (0+x19.toNat) true)))) (gu ((boL q.cl).length=(Uu bV v1).length) <|some (.inr ([],UA (Uu bV v1))))
def celStep(q:Ad):ET->Option (ET⊕Ret) | .l0 v0 v1=>G3 q v0 v1
theorem celEn_ok(q:Ad)(o:ET⊕Ret)(h:MZ q=some o):Arr UB Try.f105 0 (Hu q) Nu (zB Try.f105) [] {n:=Try.f105.ntmps,fr:=AH 0 ([sgA q]),hp:=([])} o:=Scr.ok h mix (.rn 0 [] [] [] [] (al (u2 t2)) <|.gu fun a0=>.gu fun a1=>.gu fun a2=>.lp [] [] [] [] [] [0,1] [1,3,4] (aj (aj (u2 (u2 (aj (ak (aj a0 (aj a1 a2))) s2))) s2) t6)) (by kernel_rfl)
theorem celS0_ok(q:Ad)(v0:Int)(v1:List Bool)(o:ET⊕Ret)(h:G3 q v0 v1=some o):Arr UB Try.f105 0 (Hu q) Nu (Aw Try.f105 0) (.rnd (Aw Try.f105 0)::AJ Try.f105 0) (Hu q (.l0 v0 v1)) o:=Scr.ok h mix (.rn 0 [] [] [] [] (al (u2 (u2 (u2 (u2 (al t3)))))) <|.br (fun a0=>.gu fun a1=>.el fun x19 a2=>.gu fun a3=>.gu fun a4=>.gu fun a5=>.lq [25] [(19,iv x19)] [] [] [] [0,1] [1,3,4] (up [] [(1,(Uu bV v1).set (0+x19.toNat) (bV true))] (Hu q (.l0 (i64.wrap (v0+1)) (v1.set (0+x19.toNat) true)))) (aj (aj a0 (aj (u2 (u2 (u2 (u2 (aj (k2 (aj a1 (Am (f:=iv) a2))) (u2 (aj (k2 (aj a3 a4)) (al (ak a5))))))))) (al (u2 (u2 s2))))) t6) (by simp[up,upF,upV,upH,upB,Hu,gL,boL,lI])) (fun a0=>.rn 0 [24] [] [] [] (aj a0 (al (u2 s2))) <|.gu fun a1=>.rt [] [] [] [] [] [1] (ak (al a1)))) (by kernel_rfl)
theorem cel_ct(q:Ad)(r:Ret)(h:Ax (celStep q) (MZ q) r):CT UB 105 ([]) ([sgA q]) r.1 r.2:=
 CT.mach (fn:=Try.f105) (c:=zB Try.f105) (S:=Hu q) (hd:=Nu) Try.func105 (by kernel_rfl) (nL rfl)
  (fun s o ho=>match s,ho with
   | .l0 v0 v1,ho=>celS0_ok q v0 v1 o ho
  )
  (fun o ho=>celEn_ok q o ho) h
def wkA:AV->AV | .agg cs=>.agg (cs.map wk1) | a=>wk1 a
def wk2:AV->AV | .agg cs=>.agg (cs.map wk1) | .tup cs=>.tup (cs.map wkA) | a=>wk1 a
theorem VR.wkA{φ:Phi}{A:Nat->Prop}{w:World}{a:AV}{v:Value}(h:VR φ A w a v):VR φ A w (wkA a) v:=by
 unfold Proofs.Ytedjkebooffjpaa.wkA;split
 .cases h with
  | imm _ _ h=>
   cases h with
   | agg _ vs hl h=>
    refine .agg _ vs (by simpa using hl) fun i c v hc hv=>?_
    rw[TH] at hc;obtain⟨c',hc',rfl⟩:=Option.map_eq_some_iff.1 hc;exact(VR.imm _ _ (h i c' v hc' hv)).wk1
  | agg _ vs hl h=>
   refine .agg _ vs (by simpa using hl) fun i c v hc hv=>?_
   rw[TH] at hc;obtain⟨c',hc',rfl⟩:=Option.map_eq_some_iff.1 hc;exact(h i c' v hc' hv).wk1
 .exact h.wk1
theorem VR.wk2{φ:Phi}{A:Nat->Prop}{w:World}{a:AV}{v:Value}(h:VR φ A w a v):VR φ A w (wk2 a) v:=by
 unfold Proofs.Ytedjkebooffjpaa.wk2;split
 .exact VR.wkA h
 .cases h with
  | imm _ _ h=>cases h
  | tup _ vs hl h=>
   refine .tup _ vs (by simpa using hl) fun i c v hc hv=>?_
   rw[TH] at hc;obtain⟨c',hc',rfl⟩:=Option.map_eq_some_iff.1 hc;exact VR.wkA (h i c' v hc' hv)
 .exact h.wk1
theorem CT.w2{f:FuncId}{hin hout:List (Option Blk)}{args:List AV}{res:AV}(h:CT UB f hin args hout res):CT UB f hin args hout (wk2 res):=h.less fun _ _ _ _ h=>VR.wk2 h
def H7(l:List Int)(x:Int):Int:=match fnd (fun i=>l.getD i 0==x) 0 l.length with | some i=>(i:Int) | none=> -1
theorem idxZ_has(l:List Int)(x:Int):decide (0<=H7 l x)=Ay l x:=by
 unfold H7 Ay;cases fnd (fun i=>l.getD i 0==x) 0 l.length with
 | none=>rfl
 | some i=>simp
theorem idx_c(l:List Int)(x:Int)(hl:l.length<=9223372036854775807):CT UB 96 [] [lI l,.int .i64 x] [] (.int .i64 (H7 l x)):=by
 refine idx_ct l x ([],_) ?_;refine(Kg (fun i=>EI.l0 (i:Int)) l.length (fun i=>l.getD i 0==x) (rF:=fun i=>([],.int .i64 (i:Int))) (r:=([],.int .i64 (-1))) (fun i hi hp=>?_) (fun i r hi hp hr=>?_) (fun _=>?_)).res (by unfold H7;split<;>simp_all)
 .refine .to (show Fo l x i=_ from ?_) (.ret _);unfold Fo;rw[BB 0 hi,An (by rw[<-hp];exact BEq.comm)]
 .refine .to (show Fo l x i=_ from ?_) hr;unfold Fo;rw[BB 0 hi,Af (by rw[<-hp];exact BEq.comm),zW i (by omega)]
 .refine .to (show Fo l x l.length=_ from ?_) (.ret _);unfold Fo;rw[C3]
def Eu(q:Int):Bool:=decide (0<=q)&&decide (q<8)
theorem KM(q:Int):CT UB 98 [] [.int .i64 q] [] (.bool (Eu q)):=by refine isr_ct q ([],_) (.val ?_);unfold Lt Eu;cases decide (0<=q)<;>rfl
def Bb(s:Ad):List Bool:=s.pe.foldl (fun c b=>c.set b.toNat true) s.cl
theorem LP:∀(l:List Int) (c:List Bool),(l.foldl (fun c b=>c.set b.toNat true) c).length=c.length:=by
 intro l;induction l with
 | nil=>intro c;rfl
 | cons x l ih=>intro c;rw[List.foldl_cons,ih,T6]
theorem D7(s:Ad):(Bb s).length=s.cl.length:=LP _ _
theorem LI(l:List Bool):∀(e:AV),e∈boL l->e.cells.length=1:=fun e he=>by unfold boL at he;obtain⟨b,_,rfl⟩:=T4.1 he;rfl
theorem B4(l:List Int):∀(e:AV),e∈Uu (AV.int .i64) l->e.cells.length=1:=fun e he=>by obtain⟨b,_,rfl⟩:=T4.1 he;rfl
theorem cel_c(s:Ad)(hl:s.cl.length<=1000000)(hp:s.pe.length<=1000000)(hb:∀b∈s.pe,0<=b/\b<(s.cl.length:Int)):CT UB 105 [] [sgA s] [] (.lst (boL (Bb s))):=by
 refine cel_ct s ([],_) ?_;have hL:=CB s.cl;unfold MZ;rw[Ab (LI _),Ab (by omega),Ab (by omega)];refine PE (L:=fun i b=>ET.l0 (i:Int) b) (f:=fun c b=>c.set b.toNat true) (l:=s.pe) s.cl (fun i x hx h=>?_) ?_
 .have hlen:=LP (s.pe.take i) s.cl;have h2:=hb x (TB hx);have hi:=(Tz.1 hx).1;generalize (s.pe.take i).foldl (fun c b=>c.set b.toNat true) s.cl=c at *;refine .to (show G3 s i c=_ from ?_) h;unfold G3;rw[rngS hx,Ab h2.1,Ab (by simp only[iN];omega),Ab (show Nat.le _ _ from(by simp only[TA];show 0+x.toNat+1<=_;omega)),zW i (by omega),TP]
 .refine .to (show G3 s s.pe.length (Bb s)=_ from ?_) (.ret _);unfold G3;rw[C3,Ab (by rw[hL,TA,D7])];rfl
def bdW(s:Ad)(i:Nat):Bool:=decide (s.bw.getD i 0 < -1)||(decide (8<=s.bw.getD i 0)||(decide (0<=s.bw.getD i 0)&&!(s.cl.getD i true)))
def bdP(nb:Nat)(s:Ad)(i:Nat):Bool:=decide (s.pe.getD i 0<0)||(decide ((nb:Int)<=s.pe.getD i 0)||(s.cl.getD (s.pe.getD i 0).toNat true||Ay (s.pe.take i) (s.pe.getD i 0)))
def Gk(n:Aa)(s:Ad):Bool:=decide (s.cl.length=AA n)&&(decide (s.bw.length=AA n)&&((fnd (bdW s) 0 s.bw.length).isNone&&(fnd (bdP n.bs.length s) 0 s.pe.length).isNone))
def BP(n:Aa)(s:Ad):Bool:=AZ n&&Gk n s
structure BF(n:Aa)(s:Ad):Prop where
 lc:s.cl.length=AA n
 lb:s.bw.length=AA n
 bw:∀i,i<s.bw.length->-1<=s.bw.getD i 0/\s.bw.getD i 0<8/\(0<=s.bw.getD i 0->s.cl.getD i true=true)
 pb:∀b∈s.pe,0<=b/\b<(n.bs.length:Int)/\s.cl.getD b.toNat true=false
 nd:s.pe.Nodup
theorem Dj{l:List Int}{x:Int}:Ay l x=true↔x∈l:=by
 constructor
 .intro h;unfold Ay at h;cases hf:fnd (fun i=>l.getD i 0==x) 0 l.length with
  | none=>rw[hf] at h;cases h
  | some i=>
   obtain⟨h1,_,h2⟩:=D0 hf;have:l.getD i 0=x:=by simpa using h1
   rw[<-this,Ty,Tx (show i<l.length by omega)];exact T5 _
 .intro h;cases hh:Ay l x with
  | true=>rfl
  | false=>exact absurd h (Kw hh)
theorem SF{l:List Int}{i j:Nat}(h:j<i)(hj:j<l.length):l.getD j 0∈l.take i:=by
 have hl:j<(l.take i).length:=by rw[T1];omega
 have:(l.take i)[j]=l.getD j 0:=by rw[List.getElem_take,Ty,Tx hj];rfl
 rw[<-this];exact T5 _
theorem Nk{l:List Int}(h:∀i,i<l.length->Ay (l.take i) (l.getD i 0)=false):l.Nodup:=by
 refine List.pairwise_iff_getElem.2 fun i j hi hj hij e=>?_
 refine Kw (h j hj) ?_;have h2:l.getD j 0=l.getD i 0:=by rw[Ty,Tx hj,Ty,Tx hi];exact e.symm
 rw[h2];exact SF hij hi
theorem nd_has{l:List Int}(hn:l.Nodup){i:Nat}(hi:i<l.length):Ay (l.take i) (l.getD i 0)=false:=by
 cases h:Ay (l.take i) (l.getD i 0) with
 | false=>rfl
 | true=>obtain⟨j,hj,e⟩:=Ua.1 (Dj.1 h);rw[T1] at hj;rw[List.getElem_take] at e;have:=nd_inj hn (i:=j) (j:=i) (by omega) hi (by rw[Ty,Tx (show j<l.length by omega)];exact e);omega
theorem EM{l:List Int}{i:Nat}(h:i<l.length):l.getD i 0∈l:=by rw[Ty,Tx h];exact T5 _
theorem sigF_iff{n:Aa}{s:Ad}:Gk n s=true↔BF n s:=by
 unfold Gk;simp only[TF,decide_eq_true_eq,Un];constructor
 .rintro⟨h1,h2,h3,h4⟩
  have hp:∀i,i<s.pe.length->bdP n.bs.length s i=false:=fun i hi=>CC h4 i (TJ _) (by omega)
  unfold bdP at hp;simp only[Bool.or_eq_false_iff,decide_eq_false_iff_not] at hp;refine⟨h1,h2,fun i hi=>?_,fun b hb=>?_,Nk fun i hi=>(hp i hi).2.2.2⟩
  .have:=CC h3 i (TJ _) (by omega);unfold bdW at this;simp only[Bool.or_eq_false_iff,decide_eq_false_iff_not,Bool.and_eq_false_iff] at this;refine⟨by omega,by omega,fun h0=>?_⟩;rcases this.2.2 with h | h
   .omega
   .simpa using h
  .obtain⟨i,hi,rfl⟩:=Ua.1 hb;have:=hp i hi;rw[Ty,Tx hi] at this;simp only[Option.getD_some] at this;exact⟨by omega,by omega,this.2.2.1⟩
 .intro h;refine⟨h.lc,h.lb,HO fun i _ hi=>?_,HO fun i _ hi=>?_⟩
  .obtain⟨h1,h2,h3⟩:=h.bw i (by omega);unfold bdW;rw[Ar (show ¬s.bw.getD i 0 < -1 by omega),Ar (show ¬8<=s.bw.getD i 0 by omega)];by_cases h0:0<=s.bw.getD i 0
   .rw[h3 h0];simp
   .rw[Ar h0];rfl
  .obtain⟨h1,h2,h3⟩:=h.pb _ (EM (show i<s.pe.length by omega));unfold bdP;rw[Ar (show ¬s.pe.getD i 0<0 by omega),Ar (show ¬(n.bs.length:Int)<=s.pe.getD i 0 by omega),h3,nd_has h.nd (by omega)];rfl
theorem OS{n:Aa}{s:Ad}:BP n s=true↔AB n/\BF n s:=by unfold BP;rw[TF,Cy,sigF_iff]
theorem ML{n:Nat}{x:Int}(h0:0<=x)(h1:x<(n:Int)):x∈(List.range n).map (fun i:Nat=>(i:Int)):=T4.2 ⟨x.toNat,Uo.2 (by omega),by omega⟩
theorem BF.pl{n:Aa}{s:Ad}(h:BF n s):s.pe.length<=n.bs.length:=by
 have:=IX h.nd (d:=(List.range n.bs.length).map fun i:Nat=>(i:Int)) fun x hx=>ML (h.pb x hx).1 (h.pb x hx).2.1
 rwa [TA,Ug] at this
theorem sht_get:∀{l:List Int} {c:List Bool},(∀b∈l,0<=b/\b<(c.length:Int))->∀(x:Nat),(l.foldl (fun c b=>c.set b.toNat true) c).getD x true=(c.getD x true||Ay l (x:Int)):=by
 intro l;induction l with
 | nil=>intro c _ x;simp[Ay,fnd]
 | cons y l ih=>
  intro c h x;have hy:=h y (by simp);rw[List.foldl_cons,ih (fun b hb=>by rw[T6];exact h b (TR _ hb)) x];have e:(c.set y.toNat true).getD x true=(c.getD x true||decide (y=(x:Int))):=by
   rw[Ty,Ur,Ty];by_cases hx:y=(x:Int)
   .rw[Tv (by omega),Tv (by omega),AD hx];simp
   .rw[Tw (by omega),Ar hx,Bool.or_false]
  have e2:Ay (y::l) (x:Int)=(decide (y=(x:Int))||Ay l (x:Int)):=by rw[Bool.eq_iff_iff,T9,Dj,Dj,T2,decide_eq_true_eq];exact or_congr eq_comm Iff.rfl
  rw[e,e2,Bool.or_assoc]
theorem Oq{n:Aa}{s:Ad}(hv:AB n)(h:BF n s)(x:Nat):(Bb s).getD x true=(s.cl.getD x true||Ay s.pe (x:Int)):=sht_get (fun b hb=>by have:=h.pb b hb;have:=h.lc;have:=hv.cel;omega) x
def conSt(l:List Int)(q:Int):Empty->St | x=>x.elim
def conHd:Empty->Nat | x=>x.elim
def Nm(l:List Int)(q:Int):Option (Empty⊕Ret):=gu (l.length<=9223372036854775807) <|some (.inr ([],bV (decide (0<=H7 l q))))
def conStep(l:List Int)(q:Int):Empty->Option (Empty⊕Ret) | x=>x.elim
theorem conEn_ok(l:List Int)(q:Int)(o:Empty⊕Ret)(h:Nm l q=some o):Arr UB Try.f47 0 (conSt l q) conHd (zB Try.f47) [] {n:=Try.f47.ntmps,fr:=AH 0 ([lI l,.int .i64 q]),hp:=([])} o:=Scr.ok h mix (.rn 0 [] [] [] [] s2 <|.gu fun a0=>have c0:=idx_c l q a0;.rt [] [] [(7,hK c0 [] [])] [] [] [] (aj (al (u2 (u2 (aj (ak (k3 (al (c0)))) (u2 s2))))) t2)) (by kernel_rfl)
theorem con_ct(l:List Int)(q:Int)(r:Ret)(h:Ax (conStep l q) (Nm l q) r):CT UB 47 ([]) ([lI l,.int .i64 q]) r.1 r.2:=
 CT.mach (fn:=Try.f47) (c:=zB Try.f47) (S:=conSt l q) (hd:=conHd) Try.func47 (by kernel_rfl) (nL rfl)
  (fun s o ho=>match s,ho with
   | x,_=>x.elim)
  (fun o ho=>conEn_ok l q o ho) h
inductive Dt where | l0 (v0:Int) | l1 (v0:Int)
def Hc(n:Aa)(q:Ad):Dt->St | .l0 v0=>St.mk 96 [(2,AV.ptr 0 0 0),(3,AV.ptr 1 0 0),(5,iv v0)] [some (bK [Ai n] 8),some (bK [AV.agg [UA (boL q.cl),UA (Uu iv q.bw),UA (Uu iv q.pe)]] 3)] | .l1 v0=>St.mk 96 [(2,AV.ptr 0 0 0),(3,AV.ptr 1 0 0),(6,iv v0)] [some (bK [Ai n] 8),some (bK [AV.agg [UA (boL q.cl),UA (Uu iv q.bw),UA (Uu iv q.pe)]] 3)]
def Jg:Dt->Nat | .l0 _=>0 | .l1 _=>1
def foEn(n:Aa)(q:Ad):Option (Dt⊕Ret):=gu (AB n) <|br (iN (boL q.cl).length != iN (AA n)) (some (.inr ([],bV false))) (br (iN (Uu iV q.bw).length != iN (boL q.cl).length) (some (.inr ([],bV false))) (some (.inl (.l0 ((0:Int))))))
def Fa(n:Aa)(q:Ad)(v0:Int):Option (Dt⊕Ret):=br (decide (v0<iN (Uu iV q.bw).length)) (gu (0<=v0) <|el (q.bw) (v0.toNat) fun(x33:Int)=>br (decide (x33 < -1)) (some (.inr ([],bV false))) (el (q.bw) (v0.toNat) fun(x40:Int)=>br (decide (8<=x40)) (some (.inr ([],bV false))) (el (q.bw) (v0.toNat) fun(x48:Int)=>br (x48 != -1) (el (q.cl) (v0.toNat) fun(x55:Bool)=>br (!x55) (some (.inr ([],bV false))) (some (.inl (.l0 (i64.wrap (v0+1)))))) (some (.inl (.l0 (i64.wrap (v0+1)))))))) (some (.inl (.l1 ((0:Int)))))
def FH(n:Aa)(q:Ad)(v0:Int):Option (Dt⊕Ret):=br (decide (v0<iN (Uu iV q.pe).length)) (gu (0<=v0) <|el (q.pe) (v0.toNat) fun(x70:Int)=>br (decide (x70<0)) (some (.inr ([],bV false))) (br (decide (iN (Uu bA n.bs).length<=x70)) (some (.inr ([],bV false))) (gu (0<=x70) <|el (q.cl) (x70.toNat) fun(x85:Bool)=>br x85 (some (.inr ([],bV false))) (gu (∀(e:AV),e∈Uu iV q.pe->e.cells.length=1) <|gu (v0<=iN (Uu iV q.pe).length) <|gu ((List.take (v0.toNat-Uz 0) (List.drop (Uz 0) q.pe)).length<=9223372036854775807) <|br (Ay (List.take (v0.toNat-Uz 0) (List.drop (Uz 0) q.pe)) x70) (some (.inr ([],bV false))) (some (.inl (.l1 (i64.wrap (v0+1))))))))) (some (.inr ([],bV true)))
def foStep(n:Aa)(q:Ad):Dt->Option (Dt⊕Ret) | .l0 v0=>Fa n q v0 | .l1 v0=>FH n q v0
theorem foEn_ok(n:Aa)(q:Ad)(o:Dt⊕Ret)(h:foEn n q=some o):Arr UB Try.f117 0 (Hc n q) Jg (zB Try.f117) [] {n:=Try.f117.ntmps,fr:=AH 0 ([Ai n,sgA q]),hp:=([])} o:=Scr.ok h mix (.rn 0 [] [] [] [] (al (u2 (u2 t2))) <|.gu fun a0=>.br (fun a1=>have c0:=IK a0;.rt [29] [] [(12,hK c0 [] [])] [] [] [] (aj (aj (u2 (u2 (u2 (u2 (aj (ak (aj t9 (al (c0)))) (aj t3 (u2 (aj a1 (aj a1 (aj a1 (aj a1 (aj a1 (aj a1 (aj a1 (al (aj a1 t2)))))))))))))))) (ak s2)) t2)) (fun a1=>have c0:=IK a0;.rn 0 [28] [] [(12,hK c0 [] [])] [] (al (u2 (u2 (u2 (u2 (aj (ak (aj t9 (al (c0)))) (aj t3 (u2 (ag a1 (ag a1 (ag a1 (ag a1 (ag a1 (ag a1 (aj (aj a1 t3) (al (aj a1 t2))))))))))))))))) <|.br (fun a2=>.rt [28,45] [] [] [] [] [] (aj (aj a2 s2) t2)) (fun a2=>.lp [28,44] [] [] [] [] [0,1] [2,3,5] (aj (aj a2 s2) t6)))) (by kernel_rfl)
theorem foS0_ok(n:Aa)(q:Ad)(v0:Int)(o:Dt⊕Ret)(h:Fa n q v0=some o):Arr UB Try.f117 0 (Hc n q) Jg (Aw Try.f117 0) (.rnd (Aw Try.f117 0)::AJ Try.f117 0) (Hc n q (.l0 v0)) o:=Scr.ok h mix (.rn 0 [] [] [] [] (al (u2 (u2 (u2 (u2 (al t3)))))) <|.br (fun a0=>.gu fun a1=>.el fun x33 a2=>.br (fun a3=>.rt [55,73] [(33,iv x33)] [] [] [] [] (aj (aj a0 (aj (u2 (u2 (u2 (aj (k2 (aj a1 (Am (f:=iv) a2))) (u2 (u2 (u2 (aj a3 (aj a3 (aj a3 (aj a3 (aj a3 (aj a3 (ag a3 (u2 (ak (k3 (k5 (k5 (al t3)))))))))))))))))))) (ak s2))) t2)) (fun a3=>.el fun x40 a4=>.br (fun a5=>.rt [55,72,89] [(33,iv x33),(40,iv x40)] [] [] [] [] (aj (aj a0 (aj (u2 (u2 (u2 (aj (k2 (aj a1 (Am (f:=iv) a2))) (u2 (u2 (u2 (ag a3 (ag a3 (ag a3 (aj (aj a3 (k2 (aj a1 (Am (f:=iv) a4)))) (ag a3 (ag a3 (ag a3 (u2 (aj a5 (aj a5 (aj a5 (aj a5 (aj a5 (aj a5 (aj a5 (ak (k5 (aj a5 (al (aj a5 t2))))))))))))))))))))))))))) (ak s2))) t2)) (fun a5=>.el fun x48 a6=>.br (fun a7=>.el fun x55 a8=>.rn 0 [55,72,88,103] [(33,iv x33),(40,iv x40),(48,iv x48),(55,bV x55)] [] [] (aj a0 (al (u2 (u2 (u2 (aj (k2 (aj a1 (Am (f:=iv) a2))) (u2 (u2 (u2 (ag a3 (ag a3 (ag a3 (aj (aj a3 (k2 (aj a1 (Am (f:=iv) a4)))) (ag a3 (ag a3 (ag a3 (u2 (ag a5 (ag a5 (ag a5 (aj (aj a5 (k2 (aj a1 (Am (f:=iv) a6)))) (ag a5 (ag a5 (ag a5 (ag a7 (ag a7 (ag a7 (aj (aj a7 (k2 (aj a1 (Am (f:=bV) a8)))) (ag a7 (ag a7 (aj (aj a5 (aj a7 t2)) (al (aj a5 t2))))))))))))))))))))))))))))))))) <|.br (fun a9=>.rt [72,88,103,119] [] [] [] [] [] (aj (aj a9 s2) t2)) (fun a9=>.lp [72,88,103,118] [] [] [] [] [0,1] [2,3,5] (aj (aj a9 (al (u2 (u2 s2)))) t6))) (fun a7=>.lp [55,72,88,102] [(33,iv x33),(40,iv x40),(48,iv x48)] [] [] [] [0,1] [2,3,5] (aj (aj a0 (aj (u2 (u2 (u2 (aj (k2 (aj a1 (Am (f:=iv) a2))) (u2 (u2 (u2 (ag a3 (ag a3 (ag a3 (aj (aj a3 (k2 (aj a1 (Am (f:=iv) a4)))) (ag a3 (ag a3 (ag a3 (u2 (ag a5 (ag a5 (ag a5 (aj (aj a5 (k2 (aj a1 (Am (f:=iv) a6)))) (ag a5 (ag a5 (ag a5 (aj a7 (aj a7 (aj a7 (aj a7 (aj a7 (aj a7 (aj (aj a5 (aj a7 t2)) (al (aj a5 t2))))))))))))))))))))))))))))))) (ak (al (u2 (u2 s2)))))) t6))))) (fun a0=>.lp [54] [] [] [] [] [0,1] [2,3,6] (aj (aj a0 s2) t6))) (by kernel_rfl)
theorem foS1_ok(n:Aa)(q:Ad)(v0:Int)(o:Dt⊕Ret)(h:FH n q v0=some o):Arr UB Try.f117 0 (Hc n q) Jg (Aw Try.f117 1) (.rnd (Aw Try.f117 1)::AJ Try.f117 1) (Hc n q (.l1 v0)) o:=Scr.ok h mix (.rn 0 [] [] [] [] (al (u2 (u2 (u2 (u2 (al t3)))))) <|.br (fun a0=>.gu fun a1=>.el fun x70 a2=>.rn 0 [129] [(70,iv x70)] [] [] (aj a0 (al (u2 (u2 (u2 (aj (k2 (aj a1 (Am (f:=iv) a2))) (u2 s2))))))) <|.br (fun a3=>.rt [149] [] [] [] [] [] (aj (aj (u2 (u2 (u2 (aj a3 (aj a3 (aj a3 (aj a3 (aj a3 (ag a3 (u2 (k5 (aj t3 (u2 (ak (k5 (al t3)))))))))))))))) (ak s2)) t2)) (fun a3=>.br (fun a4=>.rt [148,163] [] [] [] [] [] (aj (aj (u2 (u2 (u2 (ag a3 (ag a3 (ag a3 (ag a3 (aj (aj a3 t3) (ag a3 (u2 (aj a4 (aj a4 (aj a4 (aj a4 (aj a4 (ag a4 (u2 (ak (k5 (al t3)))))))))))))))))))) (ak s2)) t2)) (fun a4=>.gu fun a5=>.el fun x85 a6=>.br (fun a7=>.rt [148,162,177] [(85,bV x85)] [] [] [] [] (aj (aj (u2 (u2 (u2 (ag a3 (ag a3 (ag a3 (ag a3 (aj (aj a3 t3) (ag a3 (u2 (ag a4 (ag a4 (ag a4 (aj (aj a4 (k2 (aj a5 (Am (f:=bV) a6)))) (ag a4 (ag a4 (u2 (aj a7 (aj a7 (aj a7 (aj a7 (aj a7 (aj a7 (al (aj a7 t2))))))))))))))))))))))))) (ak s2)) t2)) (fun a7=>.gu fun a8=>.gu fun a9=>.gu fun a10=>have c0:=Fl (List.take (v0.toNat-Uz 0) (List.drop (Uz 0) q.pe)) x70 a10;.rn 0 [148,162,176] [(85,bV x85)] [(94,hK c0 [] [])] [] (al (u2 (u2 (u2 (ag a3 (ag a3 (ag a3 (ag a3 (aj (aj a3 t3) (ag a3 (u2 (ag a4 (ag a4 (ag a4 (aj (aj a4 (k2 (aj a5 (Am (f:=bV) a6)))) (ag a4 (ag a4 (u2 (ag a7 (ag a7 (ag a7 (aj (aj a7 (k2 (aj a8 (aj (Int.le_refl 0) (aj a1 (aj a9 (show iN (Uu iv q.pe).length<=iN (Uu iv q.pe).length by omega))))))) (ag a7 (aj (aj a7 (ak (k3 (al (show CT UB 26 [] [UA (List.take (v0.toNat-Uz 0) (List.drop (Uz 0) (Uu iv q.pe))),iv x70] [] (bV (Ay (List.take (v0.toNat-Uz 0) (List.drop (Uz 0) q.pe)) x70)) from CT.eqs (c0) (by simp[gL,boL,lI,sA,bA]<;>rfl) (by simp[gL,boL,lI,sA,bA]<;>rfl)))))) (al (aj a7 t2)))))))))))))))))))))))))) <|.br (fun a11=>.rt [148,162,176,191] [] [] [] [] [] (aj (aj a11 s2) t2)) (fun a11=>.lp [148,162,176,190] [] [] [] [] [0,1] [2,3,6] (aj (aj a11 (al (u2 (u2 s2)))) t6)))))) (fun a0=>.rt [128] [] [] [] [] [] (aj (aj a0 s2) t2))) (by kernel_rfl)
theorem fo_ct(n:Aa)(q:Ad)(r:Ret)(h:Ax (foStep n q) (foEn n q) r):CT UB 117 ([]) ([Ai n,sgA q]) r.1 r.2:=
 CT.mach (fn:=Try.f117) (c:=zB Try.f117) (S:=Hc n q) (hd:=Jg) Try.func117 (by kernel_rfl) (nL rfl)
  (fun s o ho=>match s,ho with
   | .l0 v0,ho=>foS0_ok n q v0 o ho
   | .l1 v0,ho=>foS1_ok n q v0 o ho
  )
  (fun o ho=>foEn_ok n q o ho) h
inductive EJ where | l0 (v0:Int) (v1:List Int)
def Fu(n:Aa):EJ->St | .l0 v0 v1=>St.mk 29 [(2,AV.ptr 0 0 0),(4,AV.ptr 1 0 0),(5,iv v0)] [some (bK [AV.agg [AV.nils,AV.nils,AV.nils]] 3),some (Blk.mk [AV.agg [AV.sl 2 0 (Uv (iN (AA n)).toNat false).length,AV.sl 3 0 v1.length,AV.nils]] 3 false true none),some (bK (Uv (iN (AA n)).toNat (bV false)) 1),some (bK (Uu iv v1) 1)]
def Mq:EJ->Nat | .l0 _ _=>0
def LC(n:Aa):Option (EJ⊕Ret):=gu (Rows n.nx) <|br (!AZ n) (some (.inr ([],AV.tup [AV.agg [AV.nils,AV.nils,AV.nils],iV 20]))) (gu (AB n) <|gu (1 * iN (AA n)<=281474976710656) <|gu (iN (AA n)<=9223372036854775807) <|gu (8 * iN (AA n)<=281474976710656) <|some (.inl (.l0 ((0:Int)) (Uv (iN (AA n)).toNat 0))))
def Hn(n:Aa)(v0:Int)(v1:List Int):Option (EJ⊕Ret):=br (decide (v0<iN v1.length)) (gu (0<=v0) <|gu (v0<iN v1.length) <|gu ((0+v0.toNat).succ.le (Uu iV v1).length) <|some (.inl (.l0 (i64.wrap (v0+1)) (v1.set (0+v0.toNat) (-1))))) (some (.inr ([],AV.tup [AV.agg [UA (Uv (iN (AA n)).toNat (bV false)),UA (Uu iV v1),AV.nils],iV 0])))
def r20nStep(n:Aa):EJ->Option (EJ⊕Ret) | .l0 v0 v1=>Hn n v0 v1
theorem Re(n:Aa)(o:EJ⊕Ret)(h:LC n=some o):Arr UB Try.f31 0 (Fu n) Mq (zB Try.f31) [] {n:=Try.f31.ntmps,fr:=AH 0 ([Ai n]),hp:=([])} o:=Scr.ok h mix (.rn 0 [] [] [] [] (al (u2 t3)) <|.gu fun a0=>have c0:=Kb a0;.rn 0 [] [] [(7,hK c0 [] [])] [] (al (u2 (aj (ak (aj t9 (al (c0)))) s2))) <|.br (fun a1=>.rt [17] [] [] [] [] [] (aj (aj a1 (al (ak (aj (k2 n11) t2)))) (al (aj t4 t2)))) (fun a1=>.gu fun a2=>.gu fun a3=>.gu fun a4=>.gu fun a5=>have c1:=IK a2;have c2:=IK a2;.lq [16] [] [(11,hK c1 [] []),(14,hK c2 [] [])] [] [] [1,4,2,3] [2,4,5] (up [] [(1,[AV.agg [AV.sl 2 0 (iN (AA n)).toNat,AV.sl 3 0 (iN (AA n)).toNat,AV.nils]]),(3,Uv (iN (AA n)).toNat (iv 0))] (Fu n (.l0 ((0:Int)) (Uv (iN (AA n)).toNat 0)))) (aj (aj a1 (aj (u2 (aj (ak (aj t9 (al (c1)))) (aj (k2 (aj (show 0<=iN (AA n) by simp) (aj (show iN (AA n)<=iN (AA n) by omega) (aj a3 a4)))) (u2 (aj (ak (aj t9 (al (c2)))) (aj (k2 (aj (show 0<=iN (AA n) by simp) (aj (show iN (AA n)<=iN (AA n) by omega) (aj a5 a4)))) (aj t3 (ak (al (k2 n11)))))))))) s2)) (ak (k3 (aj (al t4) t3)))) (by simp[up,upF,upV,upH,upB,Fu,gL,boL,lI,sA,bA]))) (by kernel_rfl)
theorem SW(n:Aa)(v0:Int)(v1:List Int)(o:EJ⊕Ret)(h:Hn n v0 v1=some o):Arr UB Try.f31 0 (Fu n) Mq (Aw Try.f31 0) (.rnd (Aw Try.f31 0)::AJ Try.f31 0) (Fu n (.l0 v0 v1)) o:=Scr.ok h mix (.rn 0 [] [] [] [] (al (u2 (u2 (u2 (u2 (al t3)))))) <|.br (fun a0=>.gu fun a1=>.gu fun a2=>.gu fun a3=>.lq [43] [] [] [] [] [0,1,2,3] [2,4,5] (up [] [(1,[AV.agg [AV.sl 2 0 (Uv (iN (AA n)).toNat false).length,AV.sl 3 0 v1.length,AV.nils]]),(3,(Uu iv v1).set (0+v0.toNat) (iv (-1)))] (Fu n (.l0 (i64.wrap (v0+1)) (v1.set (0+v0.toNat) (-1))))) (aj (aj a0 (aj (u2 (u2 (u2 (aj (k2 (aj a1 a2)) (al (ak a3)))))) (al (u2 (u2 s2))))) (ak (k3 (aj (al t4) t3)))) (by simp[up,upF,upV,upH,upB,Fu,gL,boL,lI,sA,bA])) (fun a0=>.rt [42] [] [] [] [] [2,3] (aj (aj a0 (al (u2 (aj (k2 n11) t2)))) (al (aj (aj (show(Uv (iN (AA n)).toNat false).length=(Uv (iN (AA n)).toNat (bV false)).length by simp) (aj (show v1.length=(Uu iv v1).length by simp) t2)) t2))))) (by kernel_rfl)
theorem r20n_ct(n:Aa)(r:Ret)(h:Ax (r20nStep n) (LC n) r):CT UB 31 ([]) ([Ai n]) r.1 r.2:=
 CT.mach (fn:=Try.f31) (c:=zB Try.f31) (S:=Fu n) (hd:=Mq) Try.func31 (by kernel_rfl) (nL rfl)
  (fun s o ho=>match s,ho with
   | .l0 v0 v1,ho=>SW n v0 v1 o ho
  )
  (fun o ho=>Re n o ho) h
inductive Db where | l0 (v0:Int) (v1 v2 v3 v4 v5 v6 v7 v8:Bool) | l1 (v0:Int) (v1:List Int) (v2:Nat) (v3:Int) (v4 v5 v6 v7 v8 v9 v10 v11:Bool)
def Hi(q:Al):Db->St | .l0 v0 v1 v2 v3 v4 v5 v6 v7 v8=>St.mk 71 [(1,AV.ptr 0 0 0),(3,AV.ptr 1 0 0),(22,UA (gL q.qu)),(23,iv (iN (gL q.qu).length)),(24,iv v0)] [some (bK [AV.agg [UA (Uu iv q.ow),UA (gL q.qu)]] 2),some (bK [AV.agg [bV v1,bV v2,bV v3,bV v4,bV v5,bV v6,bV v7,bV v8]] 8)] | .l1 v0 v1 v2 v3 v4 v5 v6 v7 v8 v9 v10 v11=>St.mk 71 [(1,AV.ptr 0 0 0),(3,AV.ptr 1 0 0),(4,iv v0),(22,UA (gL q.qu)),(23,iv (iN (gL q.qu).length)),(24,iv v0),(44,UA (Uu iv v1)),(45,iv (iN v2)),(46,iv v3)] [some (bK [AV.agg [UA (Uu iv q.ow),UA (gL q.qu)]] 2),some (bK [AV.agg [bV v4,bV v5,bV v6,bV v7,bV v8,bV v9,bV v10,bV v11]] 8)]
def JF:Db->Nat | .l0 _ _ _ _ _ _ _ _ _=>0 | .l1 _ _ _ _ _ _ _ _ _ _ _ _=>1
def Mn(q:Al):Option (Db⊕Ret):=br (decide (48<iN (Uu iV q.ow).length)) (some (.inr ([],bV false))) (br (iN (Uu iV q.ow).length != iN (gL q.qu).length) (some (.inr ([],bV false))) (some (.inl (.l0 ((0:Int)) (false) (false) (false) (false) (false) (false) (false) (false)))))
def GF(q:Al)(v0:Int)(v1 v2 v3 v4 v5 v6 v7 v8:Bool):Option (Db⊕Ret):=br (decide (v0<iN (gL q.qu).length)) (gu (0<=v0) <|el (q.qu) (v0.toNat) fun(x27:List Int)=>el (q.ow) (v0.toNat) fun(x32:Int)=>br (x32 != -1) (el (q.ow) (v0.toNat) fun(x39:Int)=>br (!Eu x39) (some (.inr ([],bV false))) (some (.inl (.l1 v0 x27 ((Uu iV x27).length) ((0:Int)) v1 v2 v3 v4 v5 v6 v7 v8)))) (some (.inl (.l1 v0 x27 ((Uu iV x27).length) ((0:Int)) v1 v2 v3 v4 v5 v6 v7 v8)))) (some (.inr ([],bV true)))
def E1(q:Al)(v0:Int)(v1:List Int)(v2:Nat)(v3:Int)(v4 v5 v6 v7 v8 v9 v10 v11:Bool):Option (Db⊕Ret):=br (decide (v3<iN v2)) (gu (0<=v3) <|el v1 (v3.toNat) fun(x48:Int)=>br (!Eu x48) (some (.inr ([],bV false))) (gu (0<=x48) <|gu (x48<8) <|el ([v4,v5,v6,v7,v8,v9,v10,v11]) (0+x48.toNat * 1) fun(x56:Bool)=>br x56 (some (.inr ([],bV false))) (gu (0<=v0) <|el (q.ow) (v0.toNat) fun(x62:Int)=>br (x62==x48) (some (.inr ([],bV false))) (gu ((0+x48.toNat * 1+1).le 8) <|some (.inl (.l1 v0 v1 v2 (i64.wrap (v3+1)) (bif Nat.beq 0 (0+x48.toNat * 1) then true else v4) (bif Nat.beq 1 (0+x48.toNat * 1) then true else v5) (bif Nat.beq 2 (0+x48.toNat * 1) then true else v6) (bif Nat.beq 3 (0+x48.toNat * 1) then true else v7) (bif Nat.beq 4 (0+x48.toNat * 1) then true else v8) (bif Nat.beq 5 (0+x48.toNat * 1) then true else v9) (bif Nat.beq 6 (0+x48.toNat * 1) then true else v10) (bif Nat.beq 7 (0+x48.toNat * 1) then true else v11))))))) (some (.inl (.l0 (i64.wrap (v0+1)) v4 v5 v6 v7 v8 v9 v10 v11)))
def JS(q:Al):Db->Option (Db⊕Ret) | .l0 v0 v1 v2 v3 v4 v5 v6 v7 v8=>GF q v0 v1 v2 v3 v4 v5 v6 v7 v8 | .l1 v0 v1 v2 v3 v4 v5 v6 v7 v8 v9 v10 v11=>E1 q v0 v1 v2 v3 v4 v5 v6 v7 v8 v9 v10 v11
theorem ilvEn_ok(q:Al)(o:Db⊕Ret)(h:Mn q=some o):Arr UB Try.f51 0 (Hi q) JF (zB Try.f51) [] {n:=Try.f51.ntmps,fr:=AH 0 ([lkA q]),hp:=([])} o:=Scr.ok h mix (.rn 0 [] [] [] [] (al (u2 t2)) <|.br (fun a0=>.rt [25] [] [] [] [] [] (aj (aj (u2 (u2 (u2 (u2 (u2 (aj a0 (aj a0 (aj a0 (aj a0 (aj a0 (aj a0 (aj a0 (al (aj a0 t2)))))))))))))) (ak s2)) t2)) (fun a0=>.rn 0 [24] [] [] [] (al (u2 (u2 (u2 (u2 (u2 (ag a0 (ag a0 (ag a0 (ag a0 (ag a0 (ag a0 (aj (aj a0 t3) (al (aj a0 t2))))))))))))))) <|.br (fun a1=>.rt [24,41] [] [] [] [] [] (aj (aj a1 s2) t2)) (fun a1=>.lp [24,40] [] [] [] [] [0,1] [1,3,22,23,24] (aj (aj a1 (u2 (al (u2 (u2 (u2 t2)))))) t8)))) (by kernel_rfl)
theorem ilvS0_ok(q:Al)(v0:Int)(v1 v2 v3 v4 v5 v6 v7 v8:Bool)(o:Db⊕Ret)(h:GF q v0 v1 v2 v3 v4 v5 v6 v7 v8=some o):Arr UB Try.f51 0 (Hi q) JF (Aw Try.f51 0) (.rnd (Aw Try.f51 0)::AJ Try.f51 0) (Hi q (.l0 v0 v1 v2 v3 v4 v5 v6 v7 v8)) o:=Scr.ok h mix (.rn 0 [] [] [] [] (al (al t3)) <|.br (fun a0=>.gu fun a1=>.el fun x27 a2=>.rn 0 [51] [(27,lI x27)] [] [] (aj a0 (al (u2 (aj (k2 (aj a1 (Am (f:=lI) a2))) (u2 (u2 s2)))))) <|.el fun x32 a3=>.br (fun a4=>.el fun x39 a5=>have c0:=KM (x39);.rn 0 [71] [(32,iv x32),(39,iv x39)] [(41,hK c0 [] [])] [] (al (u2 (u2 (u2 (aj (k2 (aj a1 (Am (f:=iv) a3))) (u2 (u2 (u2 (ag a4 (ag a4 (ag a4 (aj (aj a4 (k2 (aj a1 (Am (f:=iv) a5)))) (ag a4 (aj (aj a4 (k2 (al (c0)))) (ag a4 (al (aj a4 t2))))))))))))))))) <|.br (fun a6=>.rt [71,87] [] [] [] [] [] (aj (aj a6 s2) t2)) (fun a6=>.lp [71,86] [] [] [] [] [0,1] [1,3,4,22,23,24,44,45,46] (aj (aj a6 (al (u2 (u2 t2)))) (k3 t9)))) (fun a4=>.lp [70] [(32,iv x32)] [] [] [] [0,1] [1,3,4,22,23,24,44,45,46] (aj (aj (u2 (u2 (u2 (aj (k2 (aj a1 (Am (f:=iv) a3))) (u2 (u2 (u2 (aj a4 (aj a4 (aj a4 (aj a4 (aj a4 (aj a4 (aj a4 (al (aj a4 t2)))))))))))))))) (ak (al (u2 (u2 t2))))) (k3 t9)))) (fun a0=>.rt [50] [] [] [] [] [] (aj (aj a0 s2) t2))) (by kernel_rfl)
theorem ilvS1_ok(q:Al)(v0:Int)(v1:List Int)(v2:Nat)(v3:Int)(v4 v5 v6 v7 v8 v9 v10 v11:Bool)(o:Db⊕Ret)(h:E1 q v0 v1 v2 v3 v4 v5 v6 v7 v8 v9 v10 v11=some o):Arr UB Try.f51 0 (Hi q) JF (Aw Try.f51 1) (.rnd (Aw Try.f51 1)::AJ Try.f51 1) (Hi q (.l1 v0 v1 v2 v3 v4 v5 v6 v7 v8 v9 v10 v11)) o:=Scr.ok h mix (.rn 0 [] [] [] [] (al (al t3)) <|.br (fun a0=>.gu fun a1=>.el fun x48 a2=>.rn 0 [95] [(48,iv x48)] [] [] (aj a0 (al (aj (k2 (aj a1 (Am (f:=iv) a2))) (u2 s2)))) <|.br (fun a3=>have c0:=KM (x48);.rt [107] [] [(51,hK c0 [] [])] [] [] [] (aj (aj (u2 (aj (k2 (al (c0))) (u2 (u2 (aj a3 (aj a3 (aj a3 (ag a3 (u2 (k2 (k5 (al t3)))))))))))) (ak s2)) t2)) (fun a3=>.gu fun a4=>.gu fun a5=>.el fun x56 a6=>.br (fun a7=>have c0:=KM (x48);.rt [106,117] [(56,AV.tup [bV x56])] [(51,hK c0 [] [])] [] [] [] (aj (aj (u2 (aj (k2 (al (c0))) (u2 (u2 (ag a3 (aj (aj a3 (k2 (aj a4 a5))) (aj (aj a3 (ak (Am (f:=bV) a6))) (ag a3 (u2 (aj a7 (aj a7 (aj a7 (aj a7 (aj a7 (aj a7 (aj a7 (al (aj a7 t2)))))))))))))))))) (ak s2)) t2)) (fun a7=>.gu fun a8=>.el fun x62 a9=>have c0:=KM (x48);.rn 0 [106,116] [(56,AV.tup [bV x56]),(62,iv x62)] [(51,hK c0 [] [])] [] (al (u2 (aj (k2 (al (c0))) (u2 (u2 (ag a3 (aj (aj a3 (k2 (aj a4 a5))) (aj (aj a3 (ak (Am (f:=bV) a6))) (ag a3 (u2 (ag a7 (ag a7 (ag a7 (aj (aj a7 (k2 (aj a8 (Am (f:=iv) a9)))) (ag a7 (ag a7 (aj (aj a7 t3) (al (aj a7 t2))))))))))))))))))) <|.br (fun a10=>.rt [106,116,133] [] [] [] [] [] (aj (aj a10 s2) t2)) (fun a10=>.gu fun a11=>.lp [106,116,132] [(68,AV.tup [AV.unk])] [] [] [] [0,1] [1,3,4,22,23,24,44,45,46] (aj (aj a10 (aj (u2 (aj (k2 (aj a4 a5)) (al (ak a11)))) (al (u2 s2)))) (k3 t9)))))) (fun a0=>.lp [94] [] [] [] [] [0,1] [1,3,22,23,24] (aj (aj a0 (al (u2 s2))) t8))) (by kernel_rfl)
theorem ilv_ct(q:Al)(r:Ret)(h:Ax (JS q) (Mn q) r):CT UB 51 ([]) ([lkA q]) r.1 r.2:=
 CT.mach (fn:=Try.f51) (c:=zB Try.f51) (S:=Hi q) (hd:=JF) Try.func51 (by kernel_rfl) (nL rfl)
  (fun s o ho=>match s,ho with
   | .l0 v0 v1 v2 v3 v4 v5 v6 v7 v8,ho=>ilvS0_ok q v0 v1 v2 v3 v4 v5 v6 v7 v8 o ho
   | .l1 v0 v1 v2 v3 v4 v5 v6 v7 v8 v9 v10 v11,ho=>ilvS1_ok q v0 v1 v2 v3 v4 v5 v6 v7 v8 v9 v10 v11 o ho
  )
  (fun o ho=>ilvEn_ok q o ho) h
inductive Dq where | l0 (v0:Int) (v1 v2 v3 v4 v5 v6 v7 v8:Bool) | l1 (v0 v1 v2:Int) (v3 v4 v5 v6 v7 v8 v9 v10 v11:Bool)
def Hb(q:Al):Dq->St | .l0 v0 v1 v2 v3 v4 v5 v6 v7 v8=>St.mk 81 [(1,AV.ptr 0 0 0),(3,AV.ptr 1 0 0),(4,iv v0)] [some (bK [AV.agg [UA (Uu iv q.ow),UA (gL q.qu)]] 2),some (bK [AV.agg [bV v1,bV v2,bV v3,bV v4,bV v5,bV v6,bV v7,bV v8]] 8)] | .l1 v0 v1 v2 v3 v4 v5 v6 v7 v8 v9 v10 v11=>St.mk 81 [(1,AV.ptr 0 0 0),(3,AV.ptr 1 0 0),(4,iv v0),(5,iv v1),(34,AV.ptr 0 0 0),(35,UA (Uu iv q.ow)),(36,iv v0),(37,AV.iptr [iv v2]),(38,iv v2),(39,bV v3)] [some (bK [AV.agg [UA (Uu iv q.ow),UA (gL q.qu)]] 2),some (bK [AV.agg [bV v4,bV v5,bV v6,bV v7,bV v8,bV v9,bV v10,bV v11]] 8)]
def Kj:Dq->Nat | .l0 _ _ _ _ _ _ _ _ _=>0 | .l1 _ _ _ _ _ _ _ _ _ _ _ _=>1
def Nw(q:Al):Option (Dq⊕Ret):=br (decide (48<iN (Uu iV q.ow).length)) (some (.inr ([],bV false))) (br (iN (Uu iV q.ow).length != iN (gL q.qu).length) (some (.inr ([],bV false))) (some (.inl (.l0 ((0:Int)) (false) (false) (false) (false) (false) (false) (false) (false)))))
def Gz(q:Al)(v0:Int)(v1 v2 v3 v4 v5 v6 v7 v8:Bool):Option (Dq⊕Ret):=br (decide (v0<iN (Uu iV q.ow).length)) (gu (0<=v0) <|el (q.ow) (v0.toNat) fun(x30:Int)=>br (decide (x30 < -1)) (some (.inr ([],bV false))) (el (q.ow) (v0.toNat) fun(x37:Int)=>br (decide (8<=x37)) (some (.inr ([],bV false))) (some (.inl (.l1 v0 ((0:Int)) x37 (decide (8<=x37)) v1 v2 v3 v4 v5 v6 v7 v8))))) (some (.inr ([],bV true)))
def FE(q:Al)(v0 v1 v2:Int)(v3 v4 v5 v6 v7 v8 v9 v10 v11:Bool):Option (Dq⊕Ret):=gu (0<=v0) <|el (q.qu) (v0.toNat) fun(x45:List Int)=>br (decide (v1<iN (Uu iV x45).length)) (el (q.qu) (v0.toNat) fun(x54:List Int)=>gu (0<=v1) <|el x54 (v1.toNat) fun(x57:Int)=>br (decide (x57<0)) (some (.inr ([],bV false))) (br (decide (8<=x57)) (some (.inr ([],bV false))) (gu (0<=x57) <|gu (x57<8) <|el ([v4,v5,v6,v7,v8,v9,v10,v11]) (0+x57.toNat * 1) fun(x68:Bool)=>br x68 (some (.inr ([],bV false))) (el (q.ow) (v0.toNat) fun(x75:Int)=>br (x57==x75) (some (.inr ([],bV false))) (gu ((0+x57.toNat * 1+1).le 8) <|some (.inl (.l1 v0 (i64.wrap (v1+1)) v2 v3 (bif Nat.beq 0 (0+x57.toNat * 1) then true else v4) (bif Nat.beq 1 (0+x57.toNat * 1) then true else v5) (bif Nat.beq 2 (0+x57.toNat * 1) then true else v6) (bif Nat.beq 3 (0+x57.toNat * 1) then true else v7) (bif Nat.beq 4 (0+x57.toNat * 1) then true else v8) (bif Nat.beq 5 (0+x57.toNat * 1) then true else v9) (bif Nat.beq 6 (0+x57.toNat * 1) then true else v10) (bif Nat.beq 7 (0+x57.toNat * 1) then true else v11)))))))) (some (.inl (.l0 (i64.wrap (v0+1)) v4 v5 v6 v7 v8 v9 v10 v11)))
def Ke(q:Al):Dq->Option (Dq⊕Ret) | .l0 v0 v1 v2 v3 v4 v5 v6 v7 v8=>Gz q v0 v1 v2 v3 v4 v5 v6 v7 v8 | .l1 v0 v1 v2 v3 v4 v5 v6 v7 v8 v9 v10 v11=>FE q v0 v1 v2 v3 v4 v5 v6 v7 v8 v9 v10 v11
theorem rlvEn_ok(q:Al)(o:Dq⊕Ret)(h:Nw q=some o):Arr UB Try.f91 0 (Hb q) Kj (zB Try.f91) [] {n:=Try.f91.ntmps,fr:=AH 0 ([lkA q]),hp:=([])} o:=Scr.ok h mix (.rn 0 [] [] [] [] (al (u2 t2)) <|.br (fun a0=>.rt [23] [] [] [] [] [] (aj (aj (u2 (u2 (u2 (u2 (u2 (aj a0 (aj a0 (aj a0 (aj a0 (aj a0 (aj a0 (aj a0 (al (aj a0 t2)))))))))))))) (ak s2)) t2)) (fun a0=>.rn 0 [22] [] [] [] (al (u2 (u2 (u2 (u2 (u2 (ag a0 (ag a0 (ag a0 (ag a0 (ag a0 (ag a0 (aj (aj a0 t3) (al (aj a0 t2))))))))))))))) <|.br (fun a1=>.rt [22,39] [] [] [] [] [] (aj (aj a1 s2) t2)) (fun a1=>.lp [22,38] [] [] [] [] [0,1] [1,3,4] (aj (aj a1 (u2 s2)) t6)))) (by kernel_rfl)
theorem rlvS0_ok(q:Al)(v0:Int)(v1 v2 v3 v4 v5 v6 v7 v8:Bool)(o:Dq⊕Ret)(h:Gz q v0 v1 v2 v3 v4 v5 v6 v7 v8=some o):Arr UB Try.f91 0 (Hb q) Kj (Aw Try.f91 0) (.rnd (Aw Try.f91 0)::AJ Try.f91 0) (Hb q (.l0 v0 v1 v2 v3 v4 v5 v6 v7 v8)) o:=Scr.ok h mix (.rn 0 [] [] [] [] (al (u2 (u2 (u2 (u2 (al t3)))))) <|.br (fun a0=>.gu fun a1=>.el fun x30 a2=>.br (fun a3=>.rt [49,67] [(30,iv x30)] [] [] [] [] (aj (aj a0 (aj (u2 (u2 (u2 (aj (k2 (aj a1 (Am (f:=iv) a2))) (u2 (u2 (u2 (aj a3 (aj a3 (aj a3 (aj a3 (aj a3 (aj a3 (al (aj a3 t2))))))))))))))) (ak s2))) t2)) (fun a3=>.el fun x37 a4=>.rn 0 [49,66] [(30,iv x30),(37,iv x37)] [] [] (aj a0 (al (u2 (u2 (u2 (aj (k2 (aj a1 (Am (f:=iv) a2))) (u2 (u2 (u2 (ag a3 (ag a3 (ag a3 (aj (aj a3 (k2 (aj a1 (Am (f:=iv) a4)))) (ag a3 (ag a3 (al (aj a3 t2))))))))))))))))) <|.br (fun a5=>.rt [66,81] [] [] [] [] [] (aj (aj a5 s2) t2)) (fun a5=>.lp [66,80] [] [] [] [] [0,1] [1,3,4,5,34,35,36,37,38,39] (aj (aj a5 s2) (ak (k3 t9)))))) (fun a0=>.rt [48] [] [] [] [] [] (aj (aj a0 s2) t2))) (by kernel_rfl)
theorem rlvS1_ok(q:Al)(v0 v1 v2:Int)(v3 v4 v5 v6 v7 v8 v9 v10 v11:Bool)(o:Dq⊕Ret)(h:FE q v0 v1 v2 v3 v4 v5 v6 v7 v8 v9 v10 v11=some o):Arr UB Try.f91 0 (Hb q) Kj (Aw Try.f91 1) (.rnd (Aw Try.f91 1)::AJ Try.f91 1) (Hb q (.l1 v0 v1 v2 v3 v4 v5 v6 v7 v8 v9 v10 v11)) o:=Scr.ok h mix (.gu fun a0=>.el fun x45 a1=>.rn 0 [] [(45,lI x45)] [] [] (al (u2 (u2 (u2 (u2 (aj (k2 (aj a0 (Am (f:=lI) a1))) (u2 (u2 (al t3))))))))) <|.br (fun a2=>.el fun x54 a3=>.gu fun a4=>.el fun x57 a5=>.rn 0 [97] [(54,lI x54),(57,iv x57)] [] [] (aj a2 (al (u2 (u2 (u2 (aj (k2 (aj a0 (Am (f:=lI) a3))) (u2 (u2 (aj (k2 (aj a4 (Am (f:=iv) a5))) (u2 s2)))))))))) <|.br (fun a6=>.rt [123] [] [] [] [] [] (aj (aj (u2 (u2 (u2 (aj a6 (aj a6 (ag a6 (u2 (k3 (aj t3 (u2 (k2 (k5 (al t3))))))))))))) (ak s2)) t2)) (fun a6=>.br (fun a7=>.rt [122,131] [] [] [] [] [] (aj (aj (u2 (u2 (u2 (ag a6 (ag a6 (ag a6 (u2 (aj a7 (aj a7 (aj a7 (ag a7 (u2 (k2 (k5 (al t3))))))))))))))) (ak s2)) t2)) (fun a7=>.gu fun a8=>.gu fun a9=>.el fun x68 a10=>.br (fun a11=>.rt [122,130,141] [(68,AV.tup [bV x68])] [] [] [] [] (aj (aj (u2 (u2 (u2 (ag a6 (ag a6 (ag a6 (u2 (ag a7 (aj (aj a7 (k2 (aj a8 a9))) (aj (aj a7 (ak (Am (f:=bV) a10))) (ag a7 (u2 (aj a11 (aj a11 (aj a11 (aj a11 (aj a11 (aj a11 (aj a11 (al (aj a11 t2))))))))))))))))))))) (ak s2)) t2)) (fun a11=>.el fun x75 a12=>.rn 0 [122,130,140] [(68,AV.tup [bV x68]),(75,iv x75)] [] [] (al (u2 (u2 (u2 (ag a6 (ag a6 (ag a6 (u2 (ag a7 (aj (aj a7 (k2 (aj a8 a9))) (aj (aj a7 (ak (Am (f:=bV) a10))) (ag a7 (u2 (ag a11 (ag a11 (ag a11 (ag a11 (aj (aj a11 (k2 (aj a0 (Am (f:=iv) a12)))) (ag a11 (aj (aj a11 t3) (al (aj a11 t2)))))))))))))))))))))) <|.br (fun a13=>.rt [122,130,140,157] [] [] [] [] [] (aj (aj a13 s2) t2)) (fun a13=>.gu fun a14=>.lp [122,130,140,156] [(80,AV.tup [AV.unk])] [] [] [] [0,1] [1,3,4,5,34,35,36,37,38,39] (aj (aj a13 (aj (u2 (aj (k2 (aj a8 a9)) (al (ak a14)))) (al (u2 (u2 s2))))) (ak (k3 t9)))))))) (fun a2=>.lp [96] [] [] [] [] [0,1] [1,3,4] (aj (aj a2 (al (u2 (u2 s2)))) t6))) (by kernel_rfl)
theorem rlv_ct(q:Al)(r:Ret)(h:Ax (Ke q) (Nw q) r):CT UB 91 ([]) ([lkA q]) r.1 r.2:=
 CT.mach (fn:=Try.f91) (c:=zB Try.f91) (S:=Hb q) (hd:=Kj) Try.func91 (by kernel_rfl) (nL rfl)
  (fun s o ho=>match s,ho with
   | .l0 v0 v1 v2 v3 v4 v5 v6 v7 v8,ho=>rlvS0_ok q v0 v1 v2 v3 v4 v5 v6 v7 v8 o ho
   | .l1 v0 v1 v2 v3 v4 v5 v6 v7 v8 v9 v10 v11,ho=>rlvS1_ok q v0 v1 v2 v3 v4 v5 v6 v7 v8 v9 v10 v11 o ho
  )
  (fun o ho=>rlvEn_ok q o ho) h
theorem Fm{σ ρ:Type}{step:σ->Option (σ⊕ρ)}(L:Nat->σ)(N:Nat)(p:Nat->Bool){rF:Nat->ρ}{r:ρ}
  (hb:∀i,i<N->(∀j,j<i->p j=false)->p i=true->Ax step (some (.inl (L i))) (rF i))
  (hg:∀i x,i<N->(∀j,j<i->p j=false)->p i=false->Ax step (some (.inl (L (i+1)))) x->Ax step (some (.inl (L i))) x)
  (he:fnd p 0 N=none->Ax step (some (.inl (L N))) r):Ax step (some (.inl (L 0))) (match fnd p 0 N with | some i=>rF i | none=>r):=by
 have key:∀k i,i+k=N->(∀j,j<i->p j=false)->fnd p 0 N=fnd p i (N-i)->Ax step (some (.inl (L i))) (match fnd p i (N-i) with | some i=>rF i | none=>r):=by
  intro k;induction k with
  | zero=>intro i hi _ h0
          have e:i=N:=by omega
          subst e;rw[C1 (by omega)] at h0 ⊢
          exact he h0
  | succ k ih=>
   intro i hi hj h0;have hlt:i<N:=by omega
   rw[CV hlt] at h0 ⊢
   cases hp:p i with
   | true=>exact hb i hlt hj hp
   | false=>
    rw[hp] at h0;refine hg i _ hlt hj hp (ih (i+1) (by omega) (fun j h=>?_) h0);rcases Ut j i with h1 | h1
    .exact hj j h1
    .have:j=i:=by omega
     subst this;exact hp
 exact key N 0 (by omega) (fun j h=>absurd h (Nat.not_lt_zero _)) rfl
theorem con_c(l:List Int)(x:Int)(hl:l.length<=9223372036854775807):CT UB 47 [] [lI l,.int .i64 x] [] (.bool (Ay l x)):=by refine con_ct l x ([],_) ?_;unfold Nm;rw[Ab hl,idxZ_has];exact .ret _
theorem Gu{n:Aa}(hv:AB n):AA n<=48/\n.bs.length<=AA n:=⟨hv.cel.2.2,hv.cel.2.1⟩
theorem JZ{α:Type}(l:List α)(i:Nat):List.take ((i:Int).toNat-Uz 0) (List.drop (Uz 0) l)=l.take i:=by rw[TG];simp
theorem L0{nb:Nat}{s:Ad}{i:Nat}(hi:i<=s.pe.length)(hbd:∀j,j<i->bdP nb s j=false):i<=nb:=by
 unfold bdP at hbd;simp only[Bool.or_eq_false_iff,decide_eq_false_iff_not] at hbd;have hn:(s.pe.take i).Nodup:=Nk fun j h=>by
  rw[T1] at h;have e:(s.pe.take i).getD j 0=s.pe.getD j 0:=by rw[Ty,TT,Tv (by omega),<-Ty]
  rw[e,List.take_take,Nat.min_eq_left (by omega)];exact(hbd j (by omega)).2.2.2
 have:=IX hn (d:=(List.range nb).map fun i:Nat=>(i:Int)) fun x hx=>by obtain⟨j,hj,rfl⟩:=Ua.1 hx;rw[T1] at hj;have:=hbd j (by omega);rw[Ty,Tx (show j<s.pe.length by omega)] at this;simp only[Option.getD_some] at this;rw[List.getElem_take];exact ML (by omega) (by omega)
 rw[TA,Ug,T1] at this;omega
theorem fo_c{n:Aa}(s:Ad)(hv:AB n):CT UB 117 [] [Ai n,sgA s] [] (.bool (Gk n s)):=by
 refine fo_ct n s ([],_) ?_;obtain⟨h48,hnb⟩:=Gu hv;unfold foEn Gk;rw[Ab hv,CB,TA];by_cases h1:s.cl.length=AA n
 case neg=>rw[An (Ul.2 (by simp only[iN];omega)),Ar h1];exact .ret _
 rw[Af (by rw[h1];simp),AD h1,Bool.true_and];by_cases h2:s.bw.length=AA n
 case neg=>rw[An (Ul.2 (by simp only[iN];omega)),Ar h2];exact .ret _
 rw[Af (by rw[h1,h2];simp),AD h2,Bool.true_and];refine(Fm (fun i=>Dt.l0 (i:Int)) s.bw.length (bdW s) (rF:=fun _=>([],.bool false)) (r:=([],.bool (fnd (bdP n.bs.length s) 0 s.pe.length).isNone)) (fun i hi _ hp=>?_) (fun i x hi _ hp hx=>?_) (fun _=>?_)).res (by cases fnd (bdW s) 0 s.bw.length<;>rfl)
 .refine .to (show Fa n s i=_ from ?_) (.ret _);unfold Fa;unfold bdW at hp;rw[BB 0 hi];cases hd1:decide (s.bw.getD i 0 < -1) with
  | true=>rw[An rfl]
  | false=>
   rw[hd1,Ts] at hp;rw[Af rfl,elG 0 hi];cases hd2:decide (8<=s.bw.getD i 0) with
   | true=>rw[An rfl]
   | false=>rw[hd2,Ts,TF] at hp;rw[Af rfl,elG 0 hi,An (by have:=of_decide_eq_true hp.1;exact Ul.2 (by omega)),elG true (show i<s.cl.length by omega),An hp.2]
 .refine .to (show Fa n s i=_ from ?_) hx;unfold Fa;unfold bdW at hp;simp only[Bool.or_eq_false_iff] at hp;rw[BB 0 hi,Af hp.1,elG 0 hi,Af hp.2.1,elG 0 hi,zW i (by omega)];have h3:=of_decide_eq_false hp.1;by_cases hm:s.bw.getD i 0 = -1
  .rw[Af (by rw[hm];rfl)]
  .rw[An (Ul.2 hm),elG true (show i<s.cl.length by omega)];have hq:=hp.2.2;rw[AD (show 0<=s.bw.getD i 0 by omega),Bool.true_and] at hq;rw[Af hq]
 .refine .to (show Fa n s s.bw.length=_ from ?_) ?_ (y:=some (.inl (.l1 ((0:Nat):Int))))
  .unfold Fa;rw[C3];rfl
  refine(Fm (fun i=>Dt.l1 (i:Int)) s.pe.length (bdP n.bs.length s) (rF:=fun _=>([],.bool false)) (r:=([],.bool true)) (fun i hi hj hp=>?_) (fun i x hi hj hp hx=>?_) (fun _=>?_)).res (by cases fnd (bdP n.bs.length s) 0 s.pe.length<;>rfl)
  .have hi24:=L0 (Nat.le_of_lt hi) hj;refine .to (show FH n s i=_ from ?_) (.ret _);unfold FH;unfold bdP at hp;rw[BB 0 hi];by_cases hd1:s.pe.getD i 0<0
   .rw[An (AD hd1)]
   rw[Ar hd1,Ts] at hp;rw[Af (Ar hd1)];by_cases hd2:(n.bs.length:Int)<=s.pe.getD i 0
   .rw[An (AD (by rw[TA];exact hd2))]
   rw[Ar hd2,Ts] at hp;rw[Af (Ar (by rw[TA];exact hd2)),Ab (by omega),AF (AP true (show(s.pe.getD i 0).toNat<s.cl.length by omega))];cases hd3:s.cl.getD (s.pe.getD i 0).toNat true with
   | true=>rw[An rfl]
   | false=>rw[hd3,Ts] at hp;rw[Af rfl,Ab (B4 _),Ab (by simp only[iN,TA];omega),JZ,Ab (by rw[T1];omega),An hp]
  .have hi24:=L0 (Nat.le_of_lt hi) hj;refine .to (show FH n s i=_ from ?_) hx;unfold FH;unfold bdP at hp;simp only[Bool.or_eq_false_iff,decide_eq_false_iff_not] at hp;rw[BB 0 hi,Af (Ar hp.1),Af (Ar (by rw[TA];exact hp.2.1)),Ab (by omega),AF (AP true (show(s.pe.getD i 0).toNat<s.cl.length by omega)),Af hp.2.2.1,Ab (B4 _),Ab (by simp only[iN,TA];omega),JZ,Ab (by rw[T1];omega),Af hp.2.2.2,zW i (by omega)]
  .refine .to (show FH n s s.pe.length=_ from ?_) (.ret _);unfold FH;rw[C3]
end Go.Proofs.Ytedjkebooffjpaa

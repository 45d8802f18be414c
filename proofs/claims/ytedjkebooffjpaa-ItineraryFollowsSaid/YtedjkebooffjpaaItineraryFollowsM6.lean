/- Parts of the proof:Nm6p,NmN,NmO,NmP,NmQ,NmR,NmS,NmU,NmV,NmW,NmX,NmY,NmZ,NmZa,NmZb,NmZc,Pam,PaA,AxMl,UtA,LoA,St6m,StE,LoB,CeA,Ce1m,CeB,Ce2m,CeC,Ce3m,CeD,AxRw,RvA,RvB,Rv1m,Rv1A,RvC,RvD,Rv2m,RvE,AxNd,RqA,RqB,Cz1m,CzA,Rq1m,Rq2m,RqC,SpA,SpB,Sg1m,SgA,SgB,Sg2m,SgC,SgD,SgE. -/
import Derived.Test.YtedjkebooffjpaaProg
import Derived.KernelRfl
import Derived.Test.YtedjkebooffjpaaItineraryFollowsM5
noncomputable section
set_option linter.unusedVariables false
set_option linter.unusedSimpArgs false
open Go Go.AX Go.Proofs
set_option maxRecDepth 100000
set_option maxHeartbeats 4000000
set_option linter.unusedVariables false
open Go.IntKind (i64 u64)
namespace Go.Proofs.Ytedjkebooffjpaa
structure QA where
 L:List Int
 kk:Nat
 t1:Nat
 t2:Nat
 t3:Nat
 t4:Nat
 bs:List AL
 g:List (List Int)
 g2:List (List Int)
 ss:List An
 rs:List Int
 k:Int
 base:Int
 u:ByteArray
 x:Int
 y:Int
 z:Int
 w:Int
 cg:Int
 cs:Int
 cc:Int
 fr:List Int
 i:Nat
 j:Nat
 s:An
 b1:Bool
 v5:Int
def zB8:Blk:={es:=[.agg [.nils,.nils,.nils,.nils,.int .i64 0,.int .i64 0,.int .i64 0,.int .i64 0]],z:=8}
def nA1(bs:List AL)(g:List (List Int)):Blk:={es:=[.agg [.sl 3 0 bs.length,.sl 4 0 g.length,.nils,.nils,.int .i64 0,.int .i64 0,.int .i64 0,.int .i64 0]],z:=8,flat:=false}
def nA2(bs:List AL)(g:List (List Int))(ss:List An):Blk:={es:=[.agg [.sl 3 0 bs.length,.sl 4 0 g.length,.sl 5 0 ss.length,.nils,.int .i64 0,.int .i64 0,.int .i64 0,.int .i64 0]],z:=8,flat:=false}
def ssB(ss:List An):Blk:={es:=ss.map sA,z:=6}
def cA(q:QA):Nat->FuncId->List AV->List (Option Blk)->AH:=fun dst f args hp=>match f with
 | 15=>match args,dst with
  | [.ptr b _ _,_],21=>.call [b] [] [Af q.L q.t1] (.int .i64 q.x)
  | [.ptr b _ _,_],36=>.call [b] [] [Af q.L q.t1] (.int .i64 q.x)
  | [.ptr b _ _,_],39=>.call [b] [] [Af q.L q.t2] (.int .i64 q.y)
  | [.ptr b _ _,_],56=>.call [b] [] [Af q.L q.t2] (.int .i64 q.x)
  | [.ptr b _ _,_],75=>.call [b] [] [Af q.L q.t1] (.int .i64 q.x)
  | [.ptr b _ _,_],83=>.call [b] [] [Af q.L q.t2] (.int .i64 q.y)
  | [.ptr b _ _,_],88=>.call [b] [] [Af q.L q.t3] (.int .i64 q.z)
  | [.ptr b _ _,_],105=>.call [b] [] [Af q.L q.t1] (.int .i64 q.x)
  | [.ptr b _ _,_],108=>.call [b] [] [Af q.L q.t2] (.int .i64 q.y)
  | [.ptr b _ _,_],110=>.call [b] [] [Af q.L q.t3] (.int .i64 q.z)
  | [.ptr b _ _,_],112=>.call [b] [] [Af q.L q.t4] (.int .i64 q.w)
  | [.ptr b _ _,_],122=>.call [b] [] [Af q.L (q.t4+1)] (.int .i64 q.v5)
  | [.ptr b _ _,_],184=>.call [b] [] [Af q.L q.t1] (.int .i64 q.x)
  | [.ptr b _ _,_],90=>.call [b] [] [Af q.L q.t4] (.int .i64 q.w)
  | _,_=>.no
 | 56=>.call [] [] [] (.str q.u)
 | 58=>.call [] [3,4,5] [] (.tup [.agg [.int .i64 q.cg,.any,.int .i64 q.cs,.int .i64 q.cc],.int .i64 0])
 | 26=>match args with
  | [.sl b _ _,_]=>.call [] [b] [] (.bool q.b1)
  | _=>.call [] [] [] (.bool q.b1)
 | 57=>.call [0,2,3,4] [] [Af q.L q.t1,nJ q.bs q.g2,bsB q.bs,gB q.g2] (.tup [])
 | _=>.no
def eA(q:QA):List (Nat×AV):=[(47,.tup []),(148,.int .i64 q.s.k),(157,.bool q.s.dep),(166,.int .i64 q.s.b),(186,.int .i64 q.y)]
def nA3(bs:List AL)(g:List (List Int))(ss:List An)(x y z w:Int):Blk:={es:=[.agg [.sl 3 0 bs.length,.sl 4 0 g.length,.sl 5 0 ss.length,.nils,.int .i64 x,.int .i64 y,.int .i64 z,.int .i64 w]],z:=8,flat:=false}
def capB(a b c:Int):Blk:={es:=[.agg [.int .i64 a,.any,.int .i64 b,.int .i64 c]],z:=4}
def sN26(q:QA):St:={n:=Try.f28.ntmps,fr:=[(0,.ptr 0 0 0),(1,.int .i64 q.k)],hp:=[some (Af q.L q.kk)]}
def Ft(q:QA):St:={n:=Try.f28.ntmps,fr:=[(0,.ptr 0 0 0),(4,.ptr 1 0 0),(5,.ptr 2 0 0),(6,.int .i64 q.k)],hp:=[some (Af q.L q.kk),some zB8,some zB8]}
def CW(q:QA):St:={n:=Try.f28.ntmps,fr:=[(0,.ptr 0 0 0),(4,.ptr 1 0 0),(5,.ptr 2 0 0),(6,.int .i64 q.k)],hp:=[some (Af q.L q.kk),some zB8,some (nA1 q.bs q.g),some (bsB q.bs),some (gB q.g)]}
def DZ(q:QA):St:={n:=Try.f28.ntmps,fr:=[(0,.ptr 0 0 0),(4,.ptr 1 0 0),(5,.ptr 2 0 0),(8,.int .i64 q.base),(9,.int .i64 q.k)],hp:=[some (Af q.L q.kk),some zB8,some (nA1 q.bs q.g),some (bsB q.bs),some (gB q.g)]}
def B0(q:QA):St:={n:=Try.f28.ntmps,fr:=[(0,.ptr 0 0 0),(4,.ptr 1 0 0),(5,.ptr 2 0 0),(8,.int .i64 q.base),(9,.int .i64 q.k)],hp:=[some (Af q.L q.kk),some zB8,some (nA2 q.bs q.g q.ss),some (bsB q.bs),some (gB q.g),some (ssB q.ss)]}
def nA5(bs:List AL)(g:List (List Int))(ss:List An)(rs:List Int)(x y z w:Int):Blk:={es:=[.agg [.sl 3 0 bs.length,.sl 4 0 g.length,.sl 5 0 ss.length,.sl 7 0 rs.length,.int .i64 x,.int .i64 y,.int .i64 z,.int .i64 w]],z:=8,flat:=false}
structure QF where
 L:List Int
 kk:Nat
 bs:List AL
 g:List (List Int)
 ss:List An
 rs:List Int
 cx:Int
 cy:Int
 cz:Int
 cw:Int
 cg:Int
 cs:Int
 cc:Int
 k:Int
 fr:List Int
 i:Nat
 j:Nat
 s:An
 b1:Bool
 x:Int
 y:Int
def cF(q:QF):Nat->FuncId->List AV->List (Option Blk)->AH:=fun dst f args hp=>match f with
 | 15=>match args with
  | [.ptr b _ _,_]=>.call [b] [] [Af q.L (q.kk+1)] (.int .i64 q.x)
  | _=>.no
 | 26=>match args with
  | [.sl b _ _,_]=>.call [] [b] [] (.bool q.b1)
  | _=>.no
 | _=>.no
def eF2(q:QF):List (Nat×AV):=[(149,sA q.s),(157,sA q.s),(166,sA q.s),(186,.int .i64 q.y)]
def hF(q:QF):List (Option Blk):=[some (Af q.L q.kk),some zB8,some (nA5 q.bs q.g q.ss q.rs q.cx q.cy q.cz q.cw),some (bsB q.bs),some (gB q.g),some (ssB q.ss),some (capB q.cg q.cs q.cc),some (dB q.rs)]
def Cl(q:QF):St:={n:=Try.f28.ntmps,fr:=[(0,.ptr 0 0 0),(4,.ptr 1 0 0),(5,.ptr 2 0 0),(12,.ptr 6 0 0),(14,.int .i64 q.k)],hp:=hF q}
def Cy(q:QF):St:={n:=Try.f28.ntmps,fr:=[(0,.ptr 0 0 0),(4,.ptr 1 0 0),(5,.ptr 2 0 0),(12,.ptr 6 0 0),(14,.int .i64 q.k),(15,.sl 8 0 q.fr.length),(16,.int .i64 (iN q.i))],hp:=hF q++[some (dB q.fr)]}
def Du(q:QF):St:={n:=Try.f28.ntmps,fr:=[(0,.ptr 0 0 0),(4,.ptr 1 0 0),(5,.ptr 2 0 0),(12,.ptr 6 0 0),(14,.int .i64 q.k),(15,.sl 8 0 q.fr.length),(16,.int .i64 (iN q.i)),(17,.int .i64 (iN q.j))],hp:=hF q++[some (dB q.fr)]}
theorem nti_0(q:QA)(h1:(CT Try.prog 15 [some (Af q.L q.kk)] [AV.ptr 0 0 0,iv q.k] [some (Af q.L q.t1)] (iv q.x))){post:Exit->St->Prop}(ht:T Try.prog 1 (.loop (zC (zB Try.f28) 0)) (St.mk 191 [(0,AV.ptr 0 0 0),(4,AV.ptr 1 0 0),(5,AV.ptr 2 0 0),(6,iv (i64.wrap (1+q.x)))] [some (Af q.L q.t1),some (Blk.mk [AV.agg [AV.nils,AV.nils,AV.nils,AV.nils,iv 0,iv 0,iv 0,iv 0]] 8 true true none),some (Blk.mk [AV.agg [AV.nils,AV.nils,AV.nils,AV.nils,iv 0,iv 0,iv 0,iv 0]] 8 true true none)]) (TK Try.prog 1 post (zK (zB Try.f28) 0))):GoP Try.prog (hU [] (eA q) (cA q)) 1 (zB Try.f28) (sN26 q) post:=
 zR (σ:=[0,1,2]) (fz:=[]) (vars:=[0,4,5,6]) (by kernel_rfl) (aj (u2 (u2 (al (u2 (u2 (aj (k5 (al h1)) (u2 s2))))))) t8) ht
theorem ntl_0(q:QA)(h1:(decide (0<q.k)=true))(h2:(CT Try.prog 56 [] [iv (iN q.bs.length)] [] (AV.str q.u)))(h3:((1+q.u.size).le 9223372036854775807))(h4:(CT Try.prog 15 [some (Af q.L q.kk)] [AV.ptr 0 0 0,iv 9] [some (Af q.L q.t1)] (iv q.x)))(h5:(CT Try.prog 15 [some (Af q.L q.t1)] [AV.ptr 0 0 0,iv 9] [some (Af q.L q.t2)] (iv q.y)))(h6:((List.map bA q.bs).length=q.bs.length))(h7:(1<=[AV.agg [AV.str (ByteArray.mk #[98]++q.u),iv (i64.wrap (q.x-4)),iv (i64.wrap (q.y-4))]].length))(h8:((List.map bA q.bs).length+[AV.agg [AV.str (ByteArray.mk #[98]++q.u),iv (i64.wrap (q.x-4)),iv (i64.wrap (q.y-4))]].length<=9223372036854775807))(h9:(((List.map bA q.bs).length+[AV.agg [AV.str (ByteArray.mk #[98]++q.u),iv (i64.wrap (q.x-4)),iv (i64.wrap (q.y-4))]].length) * 32<=140737488355328))(h10:((gL q.g).length=q.g.length))(h11:((gL q.g).length+1<=9223372036854775807))(h12:(((gL q.g).length+1) * 24<=140737488355328)){post:Exit->St->Prop}{R:St->Prop}(hR:∀st,Ren 1 st (St.mk 191 [(0,AV.ptr 0 0 0),(4,AV.ptr 1 0 0),(5,AV.ptr 2 0 0),(6,iv (i64.wrap (q.k-1)))] [some (Af q.L q.t2),some (Blk.mk [AV.agg [AV.nils,AV.nils,AV.nils,AV.nils,iv 0,iv 0,iv 0,iv 0]] 8 true true none),some (Blk.mk [AV.agg [AV.sl 3 0 ((List.map bA q.bs).length+[AV.agg [AV.str (ByteArray.mk #[98]++q.u),iv (i64.wrap (q.x-4)),iv (i64.wrap (q.y-4))]].length),AV.sl 4 0 ((gL q.g).length+1),AV.nils,AV.nils,iv 0,iv 0,iv 0,iv 0]] 8 false true none),some (Blk.mk (List.map bA q.bs++[AV.agg [AV.str (ByteArray.mk #[98]++q.u),iv (i64.wrap (q.x-4)),iv (i64.wrap (q.y-4))]]) 3 true true none),some (Blk.mk (gL q.g++[AV.lst []]) 1 true true none)])->R st):GoP Try.prog (hU [49] (eA q) (cA q)) 1 (zC (zB Try.f28) 0) (CW q) (andThen R post):=
 zN (σ:=[0,1,2,6,8]) (fz:=[]) (vars:=[0,4,5,6]) (by kernel_rfl) (aj (aj (u2 s2) (aj h1 (aj (u2 (u2 (u2 s2))) (aj (u2 (u2 (u2 (aj (k2 (al h2)) (aj (ak h3) (u2 (aj (ak (k3 (al h4))) (u2 (u2 (aj (ak (k3 (al h5))) (u2 (aj t4 (u2 (aj (k2 (aj h6 (aj (aj (show(nat_lit 3=nat_lit 3) by first | decide | exact Sc _) h7) (aj h8 h9)))) (u2 (al t3)))))))))))))))) (aj (u2 (u2 (ak (aj (k2 (aj h10 (aj (aj (show(nat_lit 1=nat_lit 1) by first | decide | exact Sc _) (show(nat_lit 1<=nat_lit 1) by first | exact nL rfl | decide)) (aj h11 h12)))) (u2 (al t3)))))) (al (u2 (u2 s2)))))))) (ak (k5 (aj (al t9) t3)))) hR
theorem ntx_0(q:QA)(h1:(decide (0<q.k)=false))(h2:(CT Try.prog 57 [some (Af q.L q.kk),some (Blk.mk [AV.agg [AV.sl 2 0 q.bs.length,AV.sl 3 0 q.g.length,AV.nils,AV.nils,iv 0,iv 0,iv 0,iv 0]] 8 false true none),some (Blk.mk (List.map bA q.bs) 3 true true none),some (Blk.mk (gL q.g) 1 true true none)] [AV.ptr 0 0 0,AV.ptr 1 0 0] [some (Af q.L q.t1),some (Blk.mk [AV.agg [AV.sl 2 0 q.bs.length,AV.sl 3 0 q.g2.length,AV.nils,AV.nils,iv 0,iv 0,iv 0,iv 0]] 8 false true none),some (Blk.mk (List.map bA q.bs) 3 true true none),some (Blk.mk (gL q.g2) 1 true true none)] (AV.tup [])))(h3:(CT Try.prog 15 [some (Af q.L q.t1)] [AV.ptr 0 0 0,iv 3] [some (Af q.L q.t2)] (iv q.x))){post:Exit->St->Prop}(ht:T Try.prog 1 (.loop (zC (zB Try.f28) 1)) (St.mk 191 [(0,AV.ptr 0 0 0),(4,AV.ptr 1 0 0),(5,AV.ptr 2 0 0),(8,iv (iN q.bs.length)),(9,iv (i64.wrap (3+q.x)))] [some (Af q.L q.t2),some (Blk.mk [AV.agg [AV.nils,AV.nils,AV.nils,AV.nils,iv 0,iv 0,iv 0,iv 0]] 8 true true none),some (Blk.mk [AV.agg [AV.sl 3 0 q.bs.length,AV.sl 4 0 q.g2.length,AV.nils,AV.nils,iv 0,iv 0,iv 0,iv 0]] 8 false true none),some (Blk.mk (List.map bA q.bs) 3 true true none),some (Blk.mk (gL q.g2) 1 true true none)]) (TK Try.prog 1 post (zK (zB Try.f28) 1))):GoO Try.prog (hU [48] (eA q) (cA q)) 1 (zC (zB Try.f28) 0) (zK (zB Try.f28) 0) (CW q) post:=
 zR (σ:=[0,1,2,3,4]) (fz:=[]) (vars:=[0,4,5,8,9]) (by kernel_rfl) (aj (aj (aj (u2 s2) (al h1)) (aj (u2 (al (k5 (aj (al t9) (k2 (al h2)))))) (aj (u2 (u2 (u2 s2))) (al (u2 (aj (ak (k3 (al h3))) (u2 s2))))))) (k2 (k5 (aj (al t9) t3)))) ht
theorem nul_0(q:QA)(h1:(decide (0<q.k)=true))(h2:(CT Try.prog 56 [] [iv (iN q.ss.length)] [] (AV.str q.u)))(h3:((1+q.u.size).le 9223372036854775807))(h4:((iN q.ss.length==0)=true))(h5:(CT Try.prog 15 [some (Af q.L q.kk)] [AV.ptr 0 0 0,iv (iN q.bs.length)] [some (Af q.L q.t2)] (iv q.y)))(h6:(CT Try.prog 15 [some (Af q.L q.t2)] [AV.ptr 0 0 0,iv (iN q.bs.length)] [some (Af q.L q.t3)] (iv q.z)))(h7:(CT Try.prog 15 [some (Af q.L q.t3)] [AV.ptr 0 0 0,iv 3] [some (Af q.L q.t4)] (iv q.w)))(h8:((List.map sA q.ss).length=q.ss.length))(h9:(1<=[AV.agg [AV.str (ByteArray.mk #[115]++q.u),AV.bool true,iv q.y,iv q.z,iv (i64.wrap (1+q.w)),iv q.base]].length))(h10:((List.map sA q.ss).length+[AV.agg [AV.str (ByteArray.mk #[115]++q.u),AV.bool true,iv q.y,iv q.z,iv (i64.wrap (1+q.w)),iv q.base]].length<=9223372036854775807))(h11:(((List.map sA q.ss).length+[AV.agg [AV.str (ByteArray.mk #[115]++q.u),AV.bool true,iv q.y,iv q.z,iv (i64.wrap (1+q.w)),iv q.base]].length) * 56<=140737488355328)){post:Exit->St->Prop}{R:St->Prop}(hR:∀st,Ren 1 st (St.mk 191 [(0,AV.ptr 0 0 0),(4,AV.ptr 1 0 0),(5,AV.ptr 2 0 0),(8,iv (i64.wrap (q.base+i64.wrap (1+q.w)))),(9,iv (i64.wrap (q.k-1)))] [some (Af q.L q.t4),some (Blk.mk [AV.agg [AV.nils,AV.nils,AV.nils,AV.nils,iv 0,iv 0,iv 0,iv 0]] 8 true true none),some (Blk.mk [AV.agg [AV.sl 3 0 q.bs.length,AV.sl 4 0 q.g.length,AV.sl 5 0 ((List.map sA q.ss).length+[AV.agg [AV.str (ByteArray.mk #[115]++q.u),AV.bool true,iv q.y,iv q.z,iv (i64.wrap (1+q.w)),iv q.base]].length),AV.nils,iv 0,iv 0,iv 0,iv 0]] 8 false true none),some (Blk.mk (List.map bA q.bs) 3 true true none),some (Blk.mk (gL q.g) 1 true true none),some (Blk.mk (List.map sA q.ss++[AV.agg [AV.str (ByteArray.mk #[115]++q.u),AV.bool true,iv q.y,iv q.z,iv (i64.wrap (1+q.w)),iv q.base]]) 6 true true none)])->R st):GoP Try.prog (hU [119,141] (eA q) (cA q)) 1 (zC (zB Try.f28) 1) (B0 q) (andThen R post):=
 zN (σ:=[0,1,2,3,4,8]) (fz:=[]) (vars:=[0,4,5,8,9]) (by kernel_rfl) (aj (aj (u2 s2) (aj h1 (aj (u2 (u2 (u2 s2))) (aj (u2 (aj (k2 (al h2)) (aj (ak h3) (u2 (u2 (u2 (aj h4 (aj h4 (aj h4 (k3 (aj h4 (ag h4 (u2 (u2 (u2 (u2 (aj (k5 (al h5)) (u2 (u2 (u2 (u2 (aj (k5 (al h6)) (u2 (aj (ak (k3 (al h7))) (u2 (u2 (aj t7 (ak (al (k2 (show(Nat.le (nat_lit 1) (nat_lit 1)) by first | exact nL rfl | decide))))))))))))))))))))))))))))))) (aj (u2 (u2 (u2 (aj t3 s2)))) (aj (u2 (u2 (u2 (u2 (aj (k2 (aj h8 (aj (aj (show(nat_lit 6=nat_lit 6) by first | decide | exact Sc _) h9) (aj h10 h11)))) (u2 (al t3))))))) (al (u2 (u2 s2))))))))) (k2 (k5 (aj (al t9) t4)))) hR
theorem nul_1(q:QA)(h1:(decide (0<q.k)=true))(h2:(CT Try.prog 56 [] [iv (iN q.ss.length)] [] (AV.str q.u)))(h3:((1+q.u.size).le 9223372036854775807))(h4:((iN q.ss.length==0)=false))(h5:(decide (2<iN q.ss.length)=true))(h6:(CT Try.prog 15 [some (Af q.L q.kk)] [AV.ptr 0 0 0,iv 2] [some (Af q.L q.t1)] (iv q.x)))(h7:(CT Try.prog 15 [some (Af q.L q.t1)] [AV.ptr 0 0 0,iv (iN q.bs.length)] [some (Af q.L q.t2)] (iv q.y)))(h8:(CT Try.prog 15 [some (Af q.L q.t2)] [AV.ptr 0 0 0,iv (iN q.bs.length)] [some (Af q.L q.t3)] (iv q.z)))(h9:(CT Try.prog 15 [some (Af q.L q.t3)] [AV.ptr 0 0 0,iv 3] [some (Af q.L q.t4)] (iv q.w)))(h10:((List.map sA q.ss).length=q.ss.length))(h11:(1<=[AV.agg [AV.str (ByteArray.mk #[115]++q.u),AV.bool (q.x==0),iv q.y,iv q.z,iv (i64.wrap (1+q.w)),iv q.base]].length))(h12:((List.map sA q.ss).length+[AV.agg [AV.str (ByteArray.mk #[115]++q.u),AV.bool (q.x==0),iv q.y,iv q.z,iv (i64.wrap (1+q.w)),iv q.base]].length<=9223372036854775807))(h13:(((List.map sA q.ss).length+[AV.agg [AV.str (ByteArray.mk #[115]++q.u),AV.bool (q.x==0),iv q.y,iv q.z,iv (i64.wrap (1+q.w)),iv q.base]].length) * 56<=140737488355328)){post:Exit->St->Prop}{R:St->Prop}(hR:∀st,Ren 1 st (St.mk 191 [(0,AV.ptr 0 0 0),(4,AV.ptr 1 0 0),(5,AV.ptr 2 0 0),(8,iv (i64.wrap (q.base+i64.wrap (1+q.w)))),(9,iv (i64.wrap (q.k-1)))] [some (Af q.L q.t4),some (Blk.mk [AV.agg [AV.nils,AV.nils,AV.nils,AV.nils,iv 0,iv 0,iv 0,iv 0]] 8 true true none),some (Blk.mk [AV.agg [AV.sl 3 0 q.bs.length,AV.sl 4 0 q.g.length,AV.sl 5 0 ((List.map sA q.ss).length+[AV.agg [AV.str (ByteArray.mk #[115]++q.u),AV.bool (q.x==0),iv q.y,iv q.z,iv (i64.wrap (1+q.w)),iv q.base]].length),AV.nils,iv 0,iv 0,iv 0,iv 0]] 8 false true none),some (Blk.mk (List.map bA q.bs) 3 true true none),some (Blk.mk (gL q.g) 1 true true none),some (Blk.mk (List.map sA q.ss++[AV.agg [AV.str (ByteArray.mk #[115]++q.u),AV.bool (q.x==0),iv q.y,iv q.z,iv (i64.wrap (1+q.w)),iv q.base]]) 6 true true none)])->R st):GoP Try.prog (hU [119,140,147] (eA q) (cA q)) 1 (zC (zB Try.f28) 1) (B0 q) (andThen R post):=
 zN (σ:=[0,1,2,3,4,8]) (fz:=[]) (vars:=[0,4,5,8,9]) (by kernel_rfl) (aj (aj (u2 s2) (aj h1 (aj (u2 (u2 (u2 s2))) (aj (u2 (aj (k2 (al h2)) (aj (ak h3) (u2 (u2 (u2 (ag h4 (ag h4 (ag h4 (ag h5 (aj (aj h5 (ak (k3 (al h6)))) (ag h5 (aj (aj h4 (aj h5 t2)) (ag h4 (u2 (u2 (u2 (u2 (aj (k5 (al h7)) (u2 (u2 (u2 (u2 (aj (k5 (al h8)) (u2 (aj (ak (k3 (al h9))) (u2 (u2 (aj t7 (ak (al (k2 (show(Nat.le (nat_lit 1) (nat_lit 1)) by first | exact nL rfl | decide))))))))))))))))))))))))))))))))) (aj (u2 (u2 (u2 (aj t3 s2)))) (aj (u2 (u2 (u2 (u2 (aj (k2 (aj h10 (aj (aj (show(nat_lit 6=nat_lit 6) by first | decide | exact Sc _) h11) (aj h12 h13)))) (u2 (al t3))))))) (al (u2 (u2 s2))))))))) (k2 (k5 (aj (al t9) t4)))) hR
theorem nul_2(q:QA)(h1:(decide (0<q.k)=true))(h2:(CT Try.prog 56 [] [iv (iN q.ss.length)] [] (AV.str q.u)))(h3:((1+q.u.size).le 9223372036854775807))(h4:((iN q.ss.length==0)=false))(h5:(decide (2<iN q.ss.length)=false))(h6:(CT Try.prog 15 [some (Af q.L q.kk)] [AV.ptr 0 0 0,iv (iN q.bs.length)] [some (Af q.L q.t2)] (iv q.y)))(h7:(CT Try.prog 15 [some (Af q.L q.t2)] [AV.ptr 0 0 0,iv (iN q.bs.length)] [some (Af q.L q.t3)] (iv q.z)))(h8:(CT Try.prog 15 [some (Af q.L q.t3)] [AV.ptr 0 0 0,iv 3] [some (Af q.L q.t4)] (iv q.w)))(h9:((List.map sA q.ss).length=q.ss.length))(h10:(1<=[AV.agg [AV.str (ByteArray.mk #[115]++q.u),AV.bool false,iv q.y,iv q.z,iv (i64.wrap (1+q.w)),iv q.base]].length))(h11:((List.map sA q.ss).length+[AV.agg [AV.str (ByteArray.mk #[115]++q.u),AV.bool false,iv q.y,iv q.z,iv (i64.wrap (1+q.w)),iv q.base]].length<=9223372036854775807))(h12:(((List.map sA q.ss).length+[AV.agg [AV.str (ByteArray.mk #[115]++q.u),AV.bool false,iv q.y,iv q.z,iv (i64.wrap (1+q.w)),iv q.base]].length) * 56<=140737488355328)){post:Exit->St->Prop}{R:St->Prop}(hR:∀st,Ren 1 st (St.mk 191 [(0,AV.ptr 0 0 0),(4,AV.ptr 1 0 0),(5,AV.ptr 2 0 0),(8,iv (i64.wrap (q.base+i64.wrap (1+q.w)))),(9,iv (i64.wrap (q.k-1)))] [some (Af q.L q.t4),some (Blk.mk [AV.agg [AV.nils,AV.nils,AV.nils,AV.nils,iv 0,iv 0,iv 0,iv 0]] 8 true true none),some (Blk.mk [AV.agg [AV.sl 3 0 q.bs.length,AV.sl 4 0 q.g.length,AV.sl 5 0 ((List.map sA q.ss).length+[AV.agg [AV.str (ByteArray.mk #[115]++q.u),AV.bool false,iv q.y,iv q.z,iv (i64.wrap (1+q.w)),iv q.base]].length),AV.nils,iv 0,iv 0,iv 0,iv 0]] 8 false true none),some (Blk.mk (List.map bA q.bs) 3 true true none),some (Blk.mk (gL q.g) 1 true true none),some (Blk.mk (List.map sA q.ss++[AV.agg [AV.str (ByteArray.mk #[115]++q.u),AV.bool false,iv q.y,iv q.z,iv (i64.wrap (1+q.w)),iv q.base]]) 6 true true none)])->R st):GoP Try.prog (hU [119,140,146] (eA q) (cA q)) 1 (zC (zB Try.f28) 1) (B0 q) (andThen R post):=
 zN (σ:=[0,1,2,3,4,8]) (fz:=[]) (vars:=[0,4,5,8,9]) (by kernel_rfl) (aj (aj (u2 s2) (aj h1 (aj (u2 (u2 (u2 s2))) (aj (u2 (aj (k2 (al h2)) (aj (ak h3) (u2 (u2 (u2 (ag h4 (ag h4 (ag h4 (aj h5 (aj h5 (aj h5 (aj (aj h4 (aj h5 t2)) (ag h4 (u2 (u2 (u2 (u2 (aj (k5 (al h6)) (u2 (u2 (u2 (u2 (aj (k5 (al h7)) (u2 (aj (ak (k3 (al h8))) (u2 (u2 (aj t7 (ak (al (k2 (show(Nat.le (nat_lit 1) (nat_lit 1)) by first | exact nL rfl | decide))))))))))))))))))))))))))))))))) (aj (u2 (u2 (u2 (aj t3 s2)))) (aj (u2 (u2 (u2 (u2 (aj (k2 (aj h9 (aj (aj (show(nat_lit 6=nat_lit 6) by first | decide | exact Sc _) h10) (aj h11 h12)))) (u2 (al t3))))))) (al (u2 (u2 s2))))))))) (k2 (k5 (aj (al t9) t4)))) hR
theorem nux_0(q:QA)(h1:(decide (0<q.k)=false))(h2:(CT Try.prog 15 [some (Af q.L q.kk)] [AV.ptr 0 0 0,iv 4] [some (Af q.L q.t1)] (iv q.x)))(h3:(CT Try.prog 15 [some (Af q.L q.t1)] [AV.ptr 0 0 0,iv 3] [some (Af q.L q.t2)] (iv q.y)))(h4:(CT Try.prog 15 [some (Af q.L q.t2)] [AV.ptr 0 0 0,iv 3] [some (Af q.L q.t3)] (iv q.z)))(h5:(CT Try.prog 15 [some (Af q.L q.t3)] [AV.ptr 0 0 0,iv 8] [some (Af q.L q.t4)] (iv q.w)))(h6:(q.bs.length=(List.map bA q.bs).length))(h7:(q.g.length=(gL q.g).length))(h8:(q.ss.length=(List.map sA q.ss).length))(h9:(CT Try.prog 58 [] [AV.agg [AV.lst (List.map bA q.bs),AV.lst (gL q.g),AV.lst (List.map sA q.ss),AV.nils,iv (i64.wrap (1+q.x)),iv q.y,iv q.z,iv (i64.wrap (1+q.w))]] [] (AV.tup [AV.agg [iv q.cg,AV.any,iv q.cs,iv q.cc],iv 0])))(h10:(CT Try.prog 15 [some (Af q.L q.t4)] [AV.ptr 0 0 0,iv 3] [some (Af q.L (q.t4+1))] (iv q.v5))){post:Exit->St->Prop}(ht:T Try.prog 1 (.loop (zC (zB Try.f28) 2)) (St.mk 191 [(0,AV.ptr 0 0 0),(4,AV.ptr 1 0 0),(5,AV.ptr 2 0 0),(12,AV.ptr 6 0 0),(14,iv (i64.wrap (1+q.v5)))] [some (Af q.L (q.t4+1)),some (Blk.mk [AV.agg [AV.nils,AV.nils,AV.nils,AV.nils,iv 0,iv 0,iv 0,iv 0]] 8 true true none),some (Blk.mk [AV.agg [AV.sl 3 0 q.bs.length,AV.sl 4 0 q.g.length,AV.sl 5 0 q.ss.length,AV.nils,iv (i64.wrap (1+q.x)),iv q.y,iv q.z,iv (i64.wrap (1+q.w))]] 8 false true none),some (Blk.mk (List.map bA q.bs) 3 true true none),some (Blk.mk (gL q.g) 1 true true none),some (Blk.mk (List.map sA q.ss) 6 true true none),some (Blk.mk [AV.agg [iv q.cg,AV.any,iv q.cs,iv q.cc]] 4 true true none)]) (TK Try.prog 1 post (zK (zB Try.f28) 2))):GoO Try.prog (hU [118] (eA q) (cA q)) 1 (zC (zB Try.f28) 1) (zK (zB Try.f28) 1) (B0 q) post:=
 zR (σ:=[0,1,2,3,4,5,6]) (fz:=[]) (vars:=[0,4,5,12,14]) (by kernel_rfl) (aj (aj (aj (u2 s2) (al h1)) (aj (u2 (aj (ak (k3 (al h2))) (u2 (u2 (aj (ak (k3 (al h3))) (u2 (aj (ak (k3 (al h4))) (u2 (aj (ak (k3 (al h5))) (u2 (aj t5 (u2 (al t3))))))))))))) (aj (u2 (aj (ak (aj (aj h6 (aj h7 (aj h8 t6))) (aj h9 (show(∀(blk:Blk),blk∈[]->B7 blk) by intro _ h;cases h)))) (u2 (u2 (u2 (ak (aj (k2 (show(Nat.le (nat_lit 1) (nat_lit 1)) by first | exact nL rfl | decide)) s2))))))) (al (u2 (aj (ak (k3 (al h10))) (u2 s2))))))) (k2 (k5 (aj (al t9) t5)))) ht
theorem nvl_0(q:QF)(h1:(decide (0<q.k)=true))(h2:(decide (iN q.rs.length<q.cc)=true)){post:Exit->St->Prop}(ht:T Try.prog 1 (.loop (zC (zC (zB Try.f28) 2) 0)) (St.mk 191 [(0,AV.ptr 0 0 0),(4,AV.ptr 1 0 0),(5,AV.ptr 2 0 0),(12,AV.ptr 6 0 0),(14,iv q.k),(15,AV.nils),(16,iv 0)] [some (Af q.L q.kk),some (Blk.mk [AV.agg [AV.nils,AV.nils,AV.nils,AV.nils,iv 0,iv 0,iv 0,iv 0]] 8 true true none),some (Blk.mk [AV.agg [AV.sl 3 0 q.bs.length,AV.sl 4 0 q.g.length,AV.sl 5 0 q.ss.length,AV.sl 7 0 q.rs.length,iv q.cx,iv q.cy,iv q.cz,iv q.cw]] 8 false true none),some (Blk.mk (List.map bA q.bs) 3 true true none),some (Blk.mk (gL q.g) 1 true true none),some (Blk.mk (List.map sA q.ss) 6 true true none),some (Blk.mk [AV.agg [iv q.cg,AV.any,iv q.cs,iv q.cc]] 4 true true none),some (Blk.mk (List.map (iv) q.rs) 1 true true none)]) (TK Try.prog 1 post (zK (zC (zB Try.f28) 2) 0))):GoP Try.prog (hU [251,253,265,267] (eF2 q) (cF q)) 1 (zC (zB Try.f28) 2) (Cl q) post:=
 zR (σ:=[0,1,2,3,4,5,6,7]) (fz:=[]) (vars:=[0,4,5,12,14,15,16]) (by kernel_rfl) (aj (aj (u2 (u2 (aj (al h1) (ag (show(true=true) by first | decide | exact Sc _) (ag (show(true=true) by first | decide | exact Sc _) (ag (show(true=true) by first | decide | exact Sc _) (ag (show(true=true) by first | decide | exact Sc _) (ag (show(true=true) by first | decide | exact Sc _) (aj (aj (show(true=true) by first | decide | exact Sc _) t3) (al (aj (show(true=true) by first | decide | exact Sc _) (al h2)))))))))))) (aj (show(true=true) by first | decide | exact Sc _) (u2 s2))) (ak (k3 (k5 (aj (al t9) t6))))) ht
theorem nvx_0(q:QF)(h1:(decide (0<q.k)=false))(h2:(q.bs.length=(List.map bA q.bs).length))(h3:(q.g.length=(gL q.g).length))(h4:(q.ss.length=(List.map sA q.ss).length))(h5:(q.rs.length=(List.map (iv) q.rs).length)):GoO Try.prog (hU [250,252,266] (eF2 q) (cF q)) 1 (zC (zB Try.f28) 2) (zK (zB Try.f28) 2) (Cl q) (Fin Try.prog Try.f28 1 [some (Af q.L q.kk)] (AV.agg [AV.lst (List.map bA q.bs),AV.lst (gL q.g),AV.lst (List.map sA q.ss),AV.lst (List.map (iv) q.rs),iv q.cx,iv q.cy,iv q.cz,iv q.cw])):=
 zF (σ:=[0]) (fz:=[3,4,5,7]) (by kernel_rfl) (aj (aj (aj (u2 (u2 (aj (al h1) (aj (show(false=false) by first | decide | exact Sc _) (aj (show(false=false) by first | decide | exact Sc _) (aj (show(false=false) by first | decide | exact Sc _) (aj (show(false=false) by first | decide | exact Sc _) (aj (show(false=false) by first | decide | exact Sc _) (aj (show(false=false) by first | decide | exact Sc _) (al (aj (show(false=false) by first | decide | exact Sc _) t2))))))))))) (al (show(false=false) by first | decide | exact Sc _))) (al (u2 (al (k2 (show(Nat.le (nat_lit 1) (nat_lit 1)) by first | exact nL rfl | decide)))))) (aj (aj h2 (aj h3 (aj h4 (aj h5 t5)))) t2))
theorem nvy_0(q:QF)(h1:(decide (0<q.k)=true))(h2:(decide (iN q.rs.length<q.cc)=false))(h3:(q.bs.length=(List.map bA q.bs).length))(h4:(q.g.length=(gL q.g).length))(h5:(q.ss.length=(List.map sA q.ss).length))(h6:(q.rs.length=(List.map (iv) q.rs).length)):GoO Try.prog (hU [251,253,264,266] (eF2 q) (cF q)) 1 (zC (zB Try.f28) 2) (zK (zB Try.f28) 2) (Cl q) (Fin Try.prog Try.f28 1 [some (Af q.L q.kk)] (AV.agg [AV.lst (List.map bA q.bs),AV.lst (gL q.g),AV.lst (List.map sA q.ss),AV.lst (List.map (iv) q.rs),iv q.cx,iv q.cy,iv q.cz,iv q.cw])):=
 zF (σ:=[0]) (fz:=[3,4,5,7]) (by kernel_rfl) (aj (aj (aj (u2 (u2 (aj (al h1) (ag (show(true=true) by first | decide | exact Sc _) (ag (show(true=true) by first | decide | exact Sc _) (ag (show(true=true) by first | decide | exact Sc _) (ag (show(true=true) by first | decide | exact Sc _) (ag (show(true=true) by first | decide | exact Sc _) (aj (aj (show(true=true) by first | decide | exact Sc _) t3) (al (aj (show(true=true) by first | decide | exact Sc _) (al h2)))))))))))) (al (show(false=false) by first | decide | exact Sc _))) (al (u2 (al (k2 (show(Nat.le (nat_lit 1) (nat_lit 1)) by first | exact nL rfl | decide)))))) (aj (aj h3 (aj h4 (aj h5 (aj h6 t5)))) t2))
theorem nwl_0(q:QF)(h1:(decide (iN q.i<iN q.ss.length)=true)){post:Exit->St->Prop}(ht:T Try.prog 1 (.loop (zC (zC (zC (zB Try.f28) 2) 0) 0)) (St.mk 191 [(0,AV.ptr 0 0 0),(4,AV.ptr 1 0 0),(5,AV.ptr 2 0 0),(12,AV.ptr 6 0 0),(14,iv q.k),(15,AV.sl 8 0 q.fr.length),(16,iv (iN q.i)),(17,iv 0)] [some (Af q.L q.kk),some (Blk.mk [AV.agg [AV.nils,AV.nils,AV.nils,AV.nils,iv 0,iv 0,iv 0,iv 0]] 8 true true none),some (Blk.mk [AV.agg [AV.sl 3 0 q.bs.length,AV.sl 4 0 q.g.length,AV.sl 5 0 q.ss.length,AV.sl 7 0 q.rs.length,iv q.cx,iv q.cy,iv q.cz,iv q.cw]] 8 false true none),some (Blk.mk (List.map bA q.bs) 3 true true none),some (Blk.mk (gL q.g) 1 true true none),some (Blk.mk (List.map sA q.ss) 6 true true none),some (Blk.mk [AV.agg [iv q.cg,AV.any,iv q.cs,iv q.cc]] 4 true true none),some (Blk.mk (List.map (iv) q.rs) 1 true true none),some (Blk.mk (List.map (iv) q.fr) 1 true true none)]) (TK Try.prog 1 post (zK (zC (zC (zB Try.f28) 2) 0) 0))):GoP Try.prog (hU [281] (eF2 q) (cF q)) 1 (zC (zC (zB Try.f28) 2) 0) (Cy q) post:=
 zR (σ:=[0,1,2,3,4,5,6,7,8]) (fz:=[]) (vars:=[0,4,5,12,14,15,16,17]) (by kernel_rfl) (aj (aj (u2 (u2 (u2 (u2 (al t3))))) (aj h1 s2)) (k5 (k5 (aj (al t9) t7)))) ht
theorem nwx_0(q:QF)(h1:(decide (iN q.i<iN q.ss.length)=false))(h2:(CT Try.prog 15 [some (Af q.L q.kk)] [AV.ptr 0 0 0,iv (iN q.fr.length)] [some (Af q.L (q.kk+1))] (iv q.x)))(h3:(0<=q.x))(h4:(q.x<iN q.fr.length))(h5:((List.map (iv) q.fr)[0+q.x.toNat]?=some (iv q.y)))(h6:((List.map (iv) q.rs).length=q.rs.length))(h7:(1<=[iv q.y].length))(h8:((List.map (iv) q.rs).length+[iv q.y].length<=9223372036854775807))(h9:(((List.map (iv) q.rs).length+[iv q.y].length) * 8<=140737488355328)){post:Exit->St->Prop}{R:St->Prop}(hR:∀st,Ren 1 st (St.mk 191 [(0,AV.ptr 0 0 0),(4,AV.ptr 1 0 0),(5,AV.ptr 2 0 0),(12,AV.ptr 6 0 0),(14,iv (i64.wrap (q.k-1)))] [some (Af q.L (q.kk+1)),some (Blk.mk [AV.agg [AV.nils,AV.nils,AV.nils,AV.nils,iv 0,iv 0,iv 0,iv 0]] 8 true true none),some (Blk.mk [AV.agg [AV.sl 3 0 q.bs.length,AV.sl 4 0 q.g.length,AV.sl 5 0 q.ss.length,AV.sl 7 0 ((List.map (iv) q.rs).length+[iv q.y].length),iv q.cx,iv q.cy,iv q.cz,iv q.cw]] 8 false true none),some (Blk.mk (List.map bA q.bs) 3 true true none),some (Blk.mk (gL q.g) 1 true true none),some (Blk.mk (List.map sA q.ss) 6 true true none),some (Blk.mk [AV.agg [iv q.cg,AV.any,iv q.cs,iv q.cc]] 4 true true none),some (Blk.mk (List.map (iv) q.rs++[iv q.y]) 1 true true none)])->R st):GoO Try.prog (hU [280] (eF2 q) (cF q)) 1 (zC (zC (zB Try.f28) 2) 0) (zK (zC (zB Try.f28) 2) 0) (Cy q) (andThen R post):=
 zN (σ:=[0,1,2,3,4,5,6,10]) (fz:=[]) (vars:=[0,4,5,12,14]) (by kernel_rfl) (aj (aj (aj (u2 (u2 (u2 (u2 (al t3))))) (al h1)) (aj (u2 (u2 (u2 (u2 (u2 (u2 (aj (k5 (al h2)) (aj (k2 (aj h3 h4)) (aj (ak h5) (u2 (aj (k2 (aj h6 (aj (aj (show(nat_lit 1=nat_lit 1) by first | decide | exact Sc _) h7) (aj h8 h9)))) (u2 (al t3))))))))))))) (al (u2 (u2 s2))))) (k2 (k5 (aj (al t9) t6)))) hR
theorem nxa_0(q:QF)(h1:(0<=iN q.i))(h2:(iN q.i<iN q.ss.length))(h3:((List.map sA q.ss)[0+(iN q.i).toNat]?=some (sA q.s)))(h4:(decide (iN q.j<q.s.k)=true))(h5:(q.s.dep=true))(h6:(q.rs.length=(List.map (iv) q.rs).length))(h7:(CT Try.prog 26 [] [AV.lst (List.map (iv) q.rs),iv (i64.wrap (q.s.b+iN q.j))] [] (AV.bool q.b1)))(h8:((!q.b1)=true))(h9:((List.map (iv) q.fr).length=q.fr.length))(h10:(1<=[iv (i64.wrap (q.s.b+iN q.j))].length))(h11:((List.map (iv) q.fr).length+[iv (i64.wrap (q.s.b+iN q.j))].length<=9223372036854775807))(h12:(((List.map (iv) q.fr).length+[iv (i64.wrap (q.s.b+iN q.j))].length) * 8<=140737488355328)){post:Exit->St->Prop}{R:St->Prop}(hR:∀st,Ren 1 st (St.mk 191 [(0,AV.ptr 0 0 0),(4,AV.ptr 1 0 0),(5,AV.ptr 2 0 0),(12,AV.ptr 6 0 0),(14,iv q.k),(15,AV.sl 8 0 ((List.map (iv) q.fr).length+[iv (i64.wrap (q.s.b+iN q.j))].length)),(16,iv (iN q.i)),(17,iv (i64.wrap (iN q.j+1)))] [some (Af q.L q.kk),some (Blk.mk [AV.agg [AV.nils,AV.nils,AV.nils,AV.nils,iv 0,iv 0,iv 0,iv 0]] 8 true true none),some (Blk.mk [AV.agg [AV.sl 3 0 q.bs.length,AV.sl 4 0 q.g.length,AV.sl 5 0 q.ss.length,AV.sl 7 0 q.rs.length,iv q.cx,iv q.cy,iv q.cz,iv q.cw]] 8 false true none),some (Blk.mk (List.map bA q.bs) 3 true true none),some (Blk.mk (gL q.g) 1 true true none),some (Blk.mk (List.map sA q.ss) 6 true true none),some (Blk.mk [AV.agg [iv q.cg,AV.any,iv q.cs,iv q.cc]] 4 true true none),some (Blk.mk (List.map (iv) q.rs) 1 true true none),some (Blk.mk (List.map (iv) q.fr++[iv (i64.wrap (q.s.b+iN q.j))]) 1 true true none)])->R st):GoP Try.prog (hU [301,303,317,347] (eF2 q) (cF q)) 1 (zC (zC (zC (zB Try.f28) 2) 0) 0) (Du q) (andThen R post):=
 zN (σ:=[0,1,2,3,4,5,6,7,10]) (fz:=[]) (vars:=[0,4,5,12,14,15,16,17]) (by kernel_rfl) (aj (aj (u2 (u2 (u2 (u2 (aj (k2 (aj h1 h2)) (u2 (aj (ak h3) (aj t3 (aj (al h4) (ag (show(true=true) by first | decide | exact Sc _) (ag (show(true=true) by first | decide | exact Sc _) (ag (show(true=true) by first | decide | exact Sc _) (aj (aj (show(true=true) by first | decide | exact Sc _) (k2 (aj h1 h2))) (ag (show(true=true) by first | decide | exact Sc _) (aj (aj (show(true=true) by first | decide | exact Sc _) (ak h3)) (al (aj (show(true=true) by first | decide | exact Sc _) t2))))))))))))))))) (aj h5 (aj (u2 (u2 (u2 (aj (k2 (aj h1 h2)) (u2 (aj (ak h3) (u2 (aj t3 s2)))))))) (aj (u2 (u2 (u2 (aj (k2 (aj h6 (ak (aj h7 (show(∀(blk:Blk),blk∈[]->B7 blk) by intro _ h;cases h))))) s2)))) (aj h8 (aj (u2 (u2 (u2 (aj (k2 (aj h9 (aj (aj (show(nat_lit 1=nat_lit 1) by first | decide | exact Sc _) h10) (aj h11 h12)))) s2)))) (al (u2 (u2 s2))))))))) (k5 (k5 (aj (al t9) t7)))) hR
theorem nxb_0(q:QF)(h1:(0<=iN q.i))(h2:(iN q.i<iN q.ss.length))(h3:((List.map sA q.ss)[0+(iN q.i).toNat]?=some (sA q.s)))(h4:(decide (iN q.j<q.s.k)=true))(h5:(q.s.dep=true))(h6:(q.rs.length=(List.map (iv) q.rs).length))(h7:(CT Try.prog 26 [] [AV.lst (List.map (iv) q.rs),iv (i64.wrap (q.s.b+iN q.j))] [] (AV.bool q.b1)))(h8:((!q.b1)=false)){post:Exit->St->Prop}{R:St->Prop}(hR:∀st,Ren 1 st (St.mk 191 [(0,AV.ptr 0 0 0),(4,AV.ptr 1 0 0),(5,AV.ptr 2 0 0),(12,AV.ptr 6 0 0),(14,iv q.k),(15,AV.sl 8 0 q.fr.length),(16,iv (iN q.i)),(17,iv (i64.wrap (iN q.j+1)))] [some (Af q.L q.kk),some (Blk.mk [AV.agg [AV.nils,AV.nils,AV.nils,AV.nils,iv 0,iv 0,iv 0,iv 0]] 8 true true none),some (Blk.mk [AV.agg [AV.sl 3 0 q.bs.length,AV.sl 4 0 q.g.length,AV.sl 5 0 q.ss.length,AV.sl 7 0 q.rs.length,iv q.cx,iv q.cy,iv q.cz,iv q.cw]] 8 false true none),some (Blk.mk (List.map bA q.bs) 3 true true none),some (Blk.mk (gL q.g) 1 true true none),some (Blk.mk (List.map sA q.ss) 6 true true none),some (Blk.mk [AV.agg [iv q.cg,AV.any,iv q.cs,iv q.cc]] 4 true true none),some (Blk.mk (List.map (iv) q.rs) 1 true true none),some (Blk.mk (List.map (iv) q.fr) 1 true true none)])->R st):GoP Try.prog (hU [301,303,317,346] (eF2 q) (cF q)) 1 (zC (zC (zC (zB Try.f28) 2) 0) 0) (Du q) (andThen R post):=
 zN (σ:=[0,1,2,3,4,5,6,7,8]) (fz:=[]) (vars:=[0,4,5,12,14,15,16,17]) (by kernel_rfl) (aj (aj (u2 (u2 (u2 (u2 (aj (k2 (aj h1 h2)) (u2 (aj (ak h3) (aj t3 (aj (al h4) (ag (show(true=true) by first | decide | exact Sc _) (ag (show(true=true) by first | decide | exact Sc _) (ag (show(true=true) by first | decide | exact Sc _) (aj (aj (show(true=true) by first | decide | exact Sc _) (k2 (aj h1 h2))) (ag (show(true=true) by first | decide | exact Sc _) (aj (aj (show(true=true) by first | decide | exact Sc _) (ak h3)) (al (aj (show(true=true) by first | decide | exact Sc _) t2))))))))))))))))) (aj h5 (aj (u2 (u2 (u2 (aj (k2 (aj h1 h2)) (u2 (aj (ak h3) (u2 (aj t3 s2)))))))) (aj (u2 (u2 (u2 (aj (k2 (aj h6 (ak (aj h7 (show(∀(blk:Blk),blk∈[]->B7 blk) by intro _ h;cases h))))) s2)))) (aj h8 (al (u2 (u2 s2)))))))) (k5 (k5 (aj (al t9) t7)))) hR
theorem nxx_0(q:QF)(h1:(0<=iN q.i))(h2:(iN q.i<iN q.ss.length))(h3:((List.map sA q.ss)[0+(iN q.i).toNat]?=some (sA q.s)))(h4:(decide (iN q.j<q.s.k)=true))(h5:(q.s.dep=false)){post:Exit->St->Prop}{R:St->Prop}(hR:∀st,Ren 1 st (St.mk 191 [(0,AV.ptr 0 0 0),(4,AV.ptr 1 0 0),(5,AV.ptr 2 0 0),(12,AV.ptr 6 0 0),(14,iv q.k),(15,AV.sl 8 0 q.fr.length),(16,iv (i64.wrap (iN q.i+1)))] [some (Af q.L q.kk),some (Blk.mk [AV.agg [AV.nils,AV.nils,AV.nils,AV.nils,iv 0,iv 0,iv 0,iv 0]] 8 true true none),some (Blk.mk [AV.agg [AV.sl 3 0 q.bs.length,AV.sl 4 0 q.g.length,AV.sl 5 0 q.ss.length,AV.sl 7 0 q.rs.length,iv q.cx,iv q.cy,iv q.cz,iv q.cw]] 8 false true none),some (Blk.mk (List.map bA q.bs) 3 true true none),some (Blk.mk (gL q.g) 1 true true none),some (Blk.mk (List.map sA q.ss) 6 true true none),some (Blk.mk [AV.agg [iv q.cg,AV.any,iv q.cs,iv q.cc]] 4 true true none),some (Blk.mk (List.map (iv) q.rs) 1 true true none),some (Blk.mk (List.map (iv) q.fr) 1 true true none)])->R st):GoO Try.prog (hU [316,303] (eF2 q) (cF q)) 1 (zC (zC (zC (zB Try.f28) 2) 0) 0) (zK (zC (zC (zB Try.f28) 2) 0) 0) (Du q) (andThen R post):=
 zN (σ:=[0,1,2,3,4,5,6,7,8]) (fz:=[]) (vars:=[0,4,5,12,14,15,16]) (by kernel_rfl) (aj (aj (aj (u2 (u2 (u2 (u2 (aj (k2 (aj h1 h2)) (u2 (aj (ak h3) (aj t3 (u2 (ag h4 (ag h4 (ag h4 (aj (aj h4 (k2 (aj h1 h2))) (ag h4 (aj (aj h4 (ak h3)) (al (aj h4 t2))))))))))))))))) (al h5)) (al (u2 (u2 s2)))) (ak (k3 (k5 (aj (al t9) t7))))) hR
theorem nxx_1(q:QF)(h1:(0<=iN q.i))(h2:(iN q.i<iN q.ss.length))(h3:((List.map sA q.ss)[0+(iN q.i).toNat]?=some (sA q.s)))(h4:(decide (iN q.j<q.s.k)=false)){post:Exit->St->Prop}{R:St->Prop}(hR:∀st,Ren 1 st (St.mk 191 [(0,AV.ptr 0 0 0),(4,AV.ptr 1 0 0),(5,AV.ptr 2 0 0),(12,AV.ptr 6 0 0),(14,iv q.k),(15,AV.sl 8 0 q.fr.length),(16,iv (i64.wrap (iN q.i+1)))] [some (Af q.L q.kk),some (Blk.mk [AV.agg [AV.nils,AV.nils,AV.nils,AV.nils,iv 0,iv 0,iv 0,iv 0]] 8 true true none),some (Blk.mk [AV.agg [AV.sl 3 0 q.bs.length,AV.sl 4 0 q.g.length,AV.sl 5 0 q.ss.length,AV.sl 7 0 q.rs.length,iv q.cx,iv q.cy,iv q.cz,iv q.cw]] 8 false true none),some (Blk.mk (List.map bA q.bs) 3 true true none),some (Blk.mk (gL q.g) 1 true true none),some (Blk.mk (List.map sA q.ss) 6 true true none),some (Blk.mk [AV.agg [iv q.cg,AV.any,iv q.cs,iv q.cc]] 4 true true none),some (Blk.mk (List.map (iv) q.rs) 1 true true none),some (Blk.mk (List.map (iv) q.fr) 1 true true none)])->R st):GoO Try.prog (hU [316,302] (eF2 q) (cF q)) 1 (zC (zC (zC (zB Try.f28) 2) 0) 0) (zK (zC (zC (zB Try.f28) 2) 0) 0) (Du q) (andThen R post):=
 zN (σ:=[0,1,2,3,4,5,6,7,8]) (fz:=[]) (vars:=[0,4,5,12,14,15,16]) (by kernel_rfl) (aj (aj (aj (u2 (u2 (u2 (u2 (aj (k2 (aj h1 h2)) (u2 (aj (ak h3) (aj t3 (u2 (aj h4 (aj h4 (aj h4 (aj h4 (aj h4 (aj h4 (al (aj h4 t2))))))))))))))))) (al (show(false=false) by first | decide | exact Sc _))) (al (u2 (u2 s2)))) (ak (k3 (k5 (aj (al t9) t7))))) hR
end Go.Proofs.Ytedjkebooffjpaa
set_option linter.unusedSimpArgs false
namespace Go.Proofs.Ytedjkebooffjpaa
def frU(Q:QF)(fr:List Int)(i j:Nat)(s:An)(b1:Bool):QF:={Q with fr:=fr,i:=i,j:=j,s:=s,b1:=b1}
def Bt(s:An)(rs:List Int)(j:Nat):List Int:=((List.range j).map fun(t:Nat)=>s.b+(t:Int)).filter fun x=> !AB rs x
def CJ(s:An)(rs:List Int):List Int:=if s.dep=true then Bt s rs s.k.toNat else []
def Bz(ss:List An)(rs:List Int)(i:Nat):List Int:=(ss.take i).flatMap fun s=>CJ s rs
theorem PZ{s:An}{rs:List Int}{j:Nat}:Bt s rs (j+1)=Bt s rs j++if AB rs (s.b+(j:Int))=true then [] else [s.b+(j:Int)]:=by
 unfold Bt
 rw[Tm,SL,List.filter_append]
 congr 1
 cases hh:AB rs (s.b+(j:Int))<;>simp[hh]
theorem JZ{ss:List An}{rs:List Int}{i:Nat}{s:An}(h:ss[i]?=some s):Bz ss rs (i+1)=Bz ss rs i++CJ s rs:=by
 unfold Bz
 rw[List.take_add_one,h,List.flatMap_append];simp
theorem OX{s:An}{rs:List Int}{j:Nat}:(Bt s rs j).length<=j:=by
 unfold Bt
 exact Tf (List.length_filter_le _ _) (by simp)
theorem nx_run{Q:QF}{F:List Int}(hF:F.length<=1000)(hrs:Q.rs.length<=100){i:Nat}{s:An}(hs:Q.ss[i]?=some s)(hi:i<=100)(hk:1<=s.k/\s.k<=4)(hb:0<=s.b/\s.b<=1000){R:St->Prop}{post:Exit->St->Prop}
  (hR:∀st,Ren 1 st (Cy (frU Q (F++CJ s Q.rs) (i+1) 0 s0 false))->R st):
  T Try.prog 1 (.loop (zC (zC (zC (zB Try.f28) 2) 0) 0)) (Du (frU Q F i 0 s0 false)) (TK Try.prog 1 (andThen R post) (zK (zC (zC (zB Try.f28) 2) 0) 0)):=by
 have k0:(0:Int)<=iN i:=by simp[iN]
 have hil:=(SA.1 hs).1
 have hil':iN i<iN Q.ss.length:=by simp only[iN];omega
 have hg:(Q.ss.map sA)[0+(iN i).toNat]?=some (.agg [.str s.nm,.bool s.dep,.int .i64 s.i,.int .i64 s.o,.int .i64 s.k,.int .i64 s.b]):=by rw[SN];exact C0 hs
 have wi:i64.wrap (iN i+1)=((i+1:Nat):Int):=zW i (by omega)
 have hrl:=BW Q.rs
 rcases Bool.eq_false_or_eq_true s.dep with hd | hd
 .have eS:CJ s Q.rs=Bt s Q.rs s.k.toNat:=by unfold CJ;rw[Sw hd]
  rw[eS] at hR
  have e0:F++Bt s Q.rs 0=F:=by simp[Bt]
  suffices hh:T Try.prog 1 (.loop (zC (zC (zC (zB Try.f28) 2) 0) 0)) (Du (frU Q (F++Bt s Q.rs 0) i 0 s0 false)) (TK Try.prog 1 (andThen R post) (zK (zC (zC (zB Try.f28) 2) 0) 0)) by
   rw[e0] at hh;exact hh
  refine T.loop (fun j:Nat=>Du (frU Q (F++Bt s Q.rs j) i j s0 false)) (fun j=>(j:Int)<=s.k) (fun j=>(s.k+1-j).toNat) 0 (by omega) ?_
  intro j hj
  by_cases h:(j:Int)<s.k
  .have dk:decide (iN j<s.k)=true:=SE h
   have wx:i64.wrap (s.b+iN j)=s.b+(j:Int):=A6 _ (by simp only[iN];omega) (by simp only[iN];omega)
   have wj:i64.wrap (iN j+1)=((j+1:Nat):Int):=zW j (by omega)
   have hsucc:=PZ (s:=s) (rs:=Q.rs) (j:=j)
   have hfl:=OX (s:=s) (rs:=Q.rs) (j:=j)
   have next:∀st,Ren 1 st (Du (frU Q (F++Bt s Q.rs (j+1)) i (j+1) s0 false))->∃j',Ren 1 st (Du (frU Q (F++Bt s Q.rs j') i j' s0 false))/\(j':Int)<=s.k/\(s.k+1-j').toNat<(s.k+1-j).toNat:=fun st hst=>⟨j+1,hst,by omega,by omega⟩
   rw[hsucc] at next
   have hh66:=GA Q.rs (i64.wrap (s.b+iN j)) (by omega)
   rw[<-wx] at next
   have hcl:=BW (F++Bt s Q.rs j)
   cases hh:AB Q.rs (i64.wrap (s.b+iN j)) with
   | false=>
    rw[hh] at hh66
    rw[Sx (by rw[hh];simp)] at next
    have hlen:(F++Bt s Q.rs j).length<=2000:=by rw[SR];omega
    refine T.path mix (nxa_0 (frU Q (F++Bt s Q.rs j) i j s false) k0 hil' hg dk hd (by simp only[frU,hrl]) hh66 rfl (by simp only[frU,hcl]) (by simp) (by simp only[frU,hcl,Tc];omega) (by simp only[frU,hcl,Tc];omega) ?_)
    intro st hst
    refine next st ?_
    simp only[frU,wj] at hst
    have e1:(F++(Bt s Q.rs j++[i64.wrap (s.b+iN j)])).length=(List.map (AV.int .i64) (F++Bt s Q.rs j)).length+[AV.int .i64 (i64.wrap (s.b+iN j))].length:=by simp;omega
    have e2:(F++(Bt s Q.rs j++[i64.wrap (s.b+iN j)])).map (AV.int .i64)=List.map (AV.int .i64) (F++Bt s Q.rs j)++[AV.int .i64 (i64.wrap (s.b+iN j))]:=by simp
    unfold Du dB
    simp only[frU]
    rw[e1,e2]
    exact hst
   | true=>
    rw[hh] at hh66
    rw[Sw hh,List.append_nil] at next
    refine T.path mix (nxb_0 (frU Q (F++Bt s Q.rs j) i j s true) k0 hil' hg dk hd (by simp only[frU,hrl]) hh66 rfl ?_)
    intro st hst
    simp only[frU,wj] at hst
    exact next st hst
  .have ej:j=s.k.toNat:=by omega
   refine T.out mix (nxx_1 (frU Q (F++Bt s Q.rs j) i j s false) k0 hil' hg (SD h) ?_)
   intro st hst
   simp only[frU,wi] at hst
   rw[ej] at hst
   exact hR st hst
 .have eS:CJ s Q.rs=[]:=by unfold CJ;rw[Sx (by rw[hd];simp)]
  rw[eS,List.append_nil] at hR
  refine T.loop (fun _:Unit=>Du (frU Q F i 0 s0 false)) (fun _=>True) (fun _=>0) () trivial ?_
  intro _ _
  refine T.out mix (nxx_0 (frU Q F i 0 s false) k0 hil' hg (SE (by simp only[frU,iN];omega)) hd ?_)
  intro st hst
  simp only[frU,wi] at hst
  exact hR st hst
theorem Oo{ss:List An}{rs:List Int}(hk:∀s∈ss,s.k<=4):∀i,i<=ss.length->(Bz ss rs i).length<=4 * i:=by
 intro i
 induction i with
 | zero=>intro _;simp[Bz]
 | succ i ih=>
  intro h
  obtain⟨s,hs⟩:∃s,ss[i]?=some s:=⟨_,Sy h⟩
  rw[JZ hs,SR]
  have h1:=ih (by omega)
  have h2:=hk s (SC hs)
  have h3:(CJ s rs).length<=4:=by
   unfold CJ
   split
   .have:=OX (s:=s) (rs:=rs) (j:=s.k.toNat);omega
   .simp
  omega
structure SpOk(ss:List An):Prop where
 len:ss.length<=6
 k:∀s∈ss,1<=s.k/\s.k<=4
 b:∀s∈ss,0<=s.b/\s.b<=1000
def Fm(Q:QF):Int:=(Bz Q.ss Q.rs Q.ss.length).getD (Ah Q.L Q.kk (Bz Q.ss Q.rs Q.ss.length).length).toNat 0
theorem nw_run{Q:QF}(hs:SpOk Q.ss)(hrs:Q.rs.length<=90)(hkk:Q.kk<=100000)(hK:0<=Q.k/\Q.k<=1000)(hne:Bz Q.ss Q.rs Q.ss.length≠[]){R:St->Prop}{post:Exit->St->Prop}
  (hR:∀st,Ren 1 st (Cl {Q with kk:=Q.kk+1,rs:=Q.rs++[Fm Q],k:=Q.k-1})->R st):
  T Try.prog 1 (.loop (zC (zC (zB Try.f28) 2) 0)) (Cy (frU Q [] 0 0 s0 false)) (TK Try.prog 1 (andThen R post) (zK (zC (zB Try.f28) 2) 0)):=by
 have hsl:=hs.len
 have hfl:=Oo (rs:=Q.rs) (fun s h=>(hs.k s h).2)
 have e0:Bz Q.ss Q.rs 0=[]:=by simp[Bz]
 suffices hh:T Try.prog 1 (.loop (zC (zC (zB Try.f28) 2) 0)) (Cy (frU Q (Bz Q.ss Q.rs 0) 0 0 s0 false)) (TK Try.prog 1 (andThen R post) (zK (zC (zB Try.f28) 2) 0)) by
  rw[e0] at hh;exact hh
 refine T.loop (fun i:Nat=>Cy (frU Q (Bz Q.ss Q.rs i) i 0 s0 false)) (fun i=>i<=Q.ss.length) (fun i=>Q.ss.length+1-i) 0 (SK _) ?_
 intro i hi
 by_cases h:i<Q.ss.length
 .obtain⟨s,hss⟩:∃s,Q.ss[i]?=some s:=⟨_,Sy h⟩
  have hm:=SC hss
  have hl:=hfl i hi
  refine T.path mix (nwl_0 (frU Q (Bz Q.ss Q.rs i) i 0 s0 false) (SE (by simp only[frU,iN];omega)) ?_)
  refine nx_run (by omega) (by omega) hss (by omega) (hs.k s hm) (hs.b s hm) fun st hst=>⟨i+1,?_,h,by omega⟩
  rw[JZ hss];exact hst
 .obtain rfl:i=Q.ss.length:=by omega
  have hl:=hfl Q.ss.length (SJ _)
  unfold Fm at hR
  generalize Bz Q.ss Q.rs Q.ss.length=F at hl hne hR
  have hF1:1<=F.length:=List.length_pos_iff.2 hne
  have n1:=A5 Q.L Q.kk F.length (by omega)
  have r1:=A4 Q.L Q.kk (F.length:Int) (by omega) (by omega)
  generalize Ah Q.L Q.kk (F.length:Int)=x at n1 r1 hR
  have hrl:=BW Q.rs
  have hg:(F.map (AV.int .i64))[0+x.toNat]?=some (.int .i64 (F.getD x.toNat 0)):=Et (by omega)
  have wk:i64.wrap (Q.k-1)=Q.k-1:=A6 _ (by omega) (by omega)
  refine T.out mix (nwx_0 {frU Q F Q.ss.length 0 s0 false with x:=x,y:=F.getD x.toNat 0} (SD (by simp only[frU,iN];omega)) n1 r1.1 (by simp only[frU,iN];omega) hg (by simp only[frU,hrl]) (by simp) (by simp only[frU,hrl,Tc];omega) (by simp only[frU,hrl,Tc];omega) ?_)
  intro st hst
  refine hR st ?_
  simp only[frU,wk] at hst
  have e1:(Q.rs++[F.getD x.toNat 0]).length=(List.map (AV.int .i64) Q.rs).length+[AV.int .i64 (F.getD x.toNat 0)].length:=by simp
  have e2:(Q.rs++[F.getD x.toNat 0]).map (AV.int .i64)=List.map (AV.int .i64) Q.rs++[AV.int .i64 (F.getD x.toNat 0)]:=by simp
  unfold Cl hF nA5 dB
  simp only
  rw[e1,e2]
  exact hst
def qA(L:List Int)(kk:Nat)(bs:List AL)(g g2:List (List Int))(ss:List An)(k base:Int)(u:ByteArray)(x y z w:Int)(t1 t2 t3 t4:Nat):QA:=⟨L,kk,t1,t2,t3,t4,bs,g,g2,ss,[],k,base,u,x,y,z,w,0,0,0,[],0,0,s0,false,0⟩
def HM(L:List Int)(kk i:Nat):AL:=⟨Iq i,Ah L (kk+2 * i) 9-4,Ah L (kk+2 * i+1) 9-4⟩
def bsZ(L:List Int)(kk n:Nat):List AL:=(List.range n).map (HM L kk)
theorem Jq(L:List Int)(kk n:Nat):(bsZ L kk n).length=n:=by simp[bsZ]
theorem bsZ_succ(L:List Int)(kk n:Nat):bsZ L kk (n+1)=bsZ L kk n++[HM L kk n]:=by simp[bsZ,Tm]
theorem LessB_zN:Co zB8 (nA1 [] []):=by
 refine⟨rfl,fun _=>rfl,rfl,SJ _,fun i e' h=>?_,fun h=>(by cases h),fun h=>(by cases h)⟩
 match i,h with
 | 0,h=>
  simp[nA1] at h;subst h
  refine⟨_,rfl,rfl,fun j c' hj=>?_⟩
  match j,hj with
  | 0,hj=>simp[AV.cells] at hj;subst hj;exact⟨.nils,rfl,.nilS 3 0⟩
  | 1,hj=>simp[AV.cells] at hj;subst hj;exact⟨.nils,rfl,.nilS 4 0⟩
  | 2,hj=>simp[AV.cells] at hj;subst hj;exact⟨.nils,rfl,.refl _⟩
  | 3,hj=>simp[AV.cells] at hj;subst hj;exact⟨.nils,rfl,.refl _⟩
  | 4,hj=>simp[AV.cells] at hj;subst hj;exact⟨.int .i64 0,rfl,.refl _⟩
  | 5,hj=>simp[AV.cells] at hj;subst hj;exact⟨.int .i64 0,rfl,.refl _⟩
  | 6,hj=>simp[AV.cells] at hj;subst hj;exact⟨.int .i64 0,rfl,.refl _⟩
  | 7,hj=>simp[AV.cells] at hj;subst hj;exact⟨.int .i64 0,rfl,.refl _⟩
  | j+8,hj=>simp[AV.cells] at hj
 | i+1,h=>simp[nA1] at h
theorem ren_z(q:QA)(hb:q.bs=[])(hg:q.g=[]):Ren 1 (Ft q) (CW q):=by
 refine Ren.less rfl (by simp[Ft,CW]) (fun s=>.refl _) fun b blk' h=>?_
 match b,h with
 | 0,h=>exact .inl ⟨by simp[Ft],_,rfl,.inl (by simpa [CW,nth] using h.symm)⟩
 | 1,h=>exact .inl ⟨by simp[Ft],_,rfl,.inl (by simpa [CW,nth] using h.symm)⟩
 | 2,h=>
  simp only[CW,nth,Sd] at h;subst h
  exact .inl ⟨by simp[Ft],_,rfl,.inr (by rw[hb,hg];exact LessB_zN)⟩
 | 3,h=>
  simp only[CW,nth,Sd] at h;subst h
  exact .inr ⟨by simp[Ft],by simp[bsB,hb],rfl,rfl,rfl⟩
 | 4,h=>
  simp only[CW,nth,Sd] at h;subst h
  exact .inr ⟨by simp[Ft],by simp[gB,hg,gL],rfl,rfl,rfl⟩
 | b+5,h=>simp[CW,nth] at h
theorem rng0_rep(b:Nat):List.replicate b []=Ba b 0:=by
 apply List.ext_getElem
 .simp[Ba]
 .intro i h1 h2;simp[Ba]
theorem P9(i:Nat):gL (List.replicate i [])++[AV.lst []]=gL (List.replicate (i+1) []):=by
 unfold gL
 rw[List.replicate_succ',SL];rfl
theorem n0_run{L:List Int}{kk K:Nat}(hK:1<=K/\K<=24)(hkk:kk<=10000){post:Exit->St->Prop}
  (hT:∀B:Int,B=(K:Int)->T Try.prog 1 (.loop (zC (zB Try.f28) 1)) (DZ (qA L ((Bg L K (kk+2 * K)).2+1) (bsZ L kk K) (Bg L K (kk+2 * K)).1 [] [] (3+Ah L (Bg L K (kk+2 * K)).2 3) B em 0 0 0 0 0 0 0 0)) (TK Try.prog 1 post (zK (zB Try.f28) 1))):
  T Try.prog 1 (.loop (zC (zB Try.f28) 0)) (CW (qA L kk [] [] [] [] (K:Int) 0 em 0 0 0 0 0 0 0 0)) (TK Try.prog 1 post (zK (zB Try.f28) 0)):=by
 suffices hh:T Try.prog 1 (.loop (zC (zB Try.f28) 0)) (CW (qA L (kk+2 * 0) (bsZ L kk 0) (List.replicate 0 []) [] [] ((K:Int)-((0:Nat):Int)) 0 em 0 0 0 0 0 0 0 0)) (TK Try.prog 1 post (zK (zB Try.f28) 0)) by
  simpa [bsZ] using hh
 refine T.loop (fun i:Nat=>CW (qA L (kk+2 * i) (bsZ L kk i) (List.replicate i []) [] [] ((K:Int)-(i:Int)) 0 em 0 0 0 0 0 0 0 0)) (fun i=>i<=K) (fun i=>K+1-i) 0 (SK _) ?_
 intro i hi
 have hbl:=Jq L kk i
 have hbm:((bsZ L kk i).map bA).length=i:=by simp[bsZ]
 have hgl:=BJ (List.replicate i ([]:List Int))
 rw[SU] at hgl
 by_cases h:i<K
 .have n1:=A5 L (kk+2 * i) 9 (by omega)
  have n2:=A5 L (kk+2 * i+1) 9 (by omega)
  have r1:=A4 L (kk+2 * i) 9 (by omega) (by omega)
  have r2:=A4 L (kk+2 * i+1) 9 (by omega) (by omega)
  have d1:=MU i (by omega)
  have w1:i64.wrap (Ah L (kk+2 * i) 9-4)=Ah L (kk+2 * i) 9-4:=A6 _ (by omega) (by omega)
  have w2:i64.wrap (Ah L (kk+2 * i+1) 9-4)=Ah L (kk+2 * i+1) 9-4:=A6 _ (by omega) (by omega)
  have wk:i64.wrap ((K:Int)-(i:Int)-1)=(K:Int)-((i+1:Nat):Int):=by rw[A6 _ (by omega) (by omega)];omega
  have hsz:(B9 i).size<=2:=by unfold B9;split<;>exact nL rfl
  have dd:CT Try.prog 56 [] [.int .i64 (iN (bsZ L kk i).length)] [] (.str (B9 i)):=by rw[hbl];exact d1
  refine T.path mix (ntl_0 (qA L (kk+2 * i) (bsZ L kk i) (List.replicate i []) [] [] ((K:Int)-(i:Int)) 0 (B9 i) (Ah L (kk+2 * i) 9) (Ah L (kk+2 * i+1) 9) 0 0 (kk+2 * i+1) (kk+2 * i+2) 0 0)
   (SE (by simp only[qA];omega)) dd (by show 1+(B9 i).size<=_;omega) n1 n2 (by simp only[qA,hbl,hbm]) (by simp) (by simp only[qA,hbm,Tc];omega) (by simp only[qA,hbm,Tc];omega)
   (by simp only[qA,hgl,SU]) (by simp only[qA,hgl];omega) (by simp only[qA,hgl];omega) ?_)
  intro st hst
  refine⟨i+1,?_,h,by omega⟩
  simp only[qA,wk,w1,w2] at hst
  have e1:(bsZ L kk (i+1)).map bA=(bsZ L kk i).map bA++[AV.agg [AV.str (ByteArray.mk #[98]++B9 i),AV.int .i64 (Ah L (kk+2 * i) 9-4),AV.int .i64 (Ah L (kk+2 * i+1) 9-4)]]:=by rw[bsZ_succ,SL];rfl
  have e2:(bsZ L kk (i+1)).length=((bsZ L kk i).map bA).length+[AV.agg [AV.str (ByteArray.mk #[98]++B9 i),AV.int .i64 (Ah L (kk+2 * i) 9-4),AV.int .i64 (Ah L (kk+2 * i+1) 9-4)]].length:=by rw[Jq,hbm];rfl
  have e3:(List.replicate (i+1) ([]:List Int)).length=(gL (List.replicate i [])).length+1:=by rw[hgl];simp
  unfold CW nA1 bsB gB
  simp only[qA]
  rw[e1,e2,e3,<-P9]
  exact hst
 .obtain rfl:i=K:=by omega
  have hr:=ring_ct (L:=L) (bs:=bsZ L kk i) (by rw[hbl];exact hK) (kk+2 * i) (by omega)
  rw[hbl] at hr
  have hro:=Oi (L:=L) (kk:=kk+2 * i) hK
  have n1:=A5 L (Bg L i (kk+2 * i)).2 3 (by omega)
  have r1:=A4 L (Bg L i (kk+2 * i)).2 3 (by omega) (by omega)
  have w3:i64.wrap (3+Ah L (Bg L i (kk+2 * i)).2 3)=3+Ah L (Bg L i (kk+2 * i)).2 3:=A6 _ (by omega) (by omega)
  rw[<-rng0_rep] at hr
  have k:=ntx_0 (post:=post) (qA L (kk+2 * i) (bsZ L kk i) (List.replicate i []) (Bg L i (kk+2 * i)).1 [] ((i:Int)-(i:Int)) 0 em (Ah L (Bg L i (kk+2 * i)).2 3) 0 0 0 (Bg L i (kk+2 * i)).2 ((Bg L i (kk+2 * i)).2+1) 0 0)
   (SD (by simp only[qA];omega)) hr n1 (by have:=hT (iN (bsZ L kk i).length) (by simp[iN,hbl]);simp only[qA,w3];exact this)
  exact T.out mix k
def spZ(L:List Int)(b:Nat)(i kk:Nat)(base:Int)(dep:Bool):An:=⟨ES i,dep,Ah L kk b,Ah L (kk+1) b,1+Ah L (kk+2) 3,base⟩
structure SS where
 ss:List An
 kk:Nat
 base:Int
def stS(L:List Int)(b:Nat)(p:SS):SS:=
 if p.ss.length=0 then ⟨p.ss++[spZ L b p.ss.length p.kk p.base true],p.kk+3,p.base+(1+Ah L (p.kk+2) 3)⟩
 else if 2<p.ss.length then ⟨p.ss++[spZ L b p.ss.length (p.kk+1) p.base (Ah L p.kk 2==0)],p.kk+4,p.base+(1+Ah L (p.kk+3) 3)⟩
 else ⟨p.ss++[spZ L b p.ss.length p.kk p.base false],p.kk+3,p.base+(1+Ah L (p.kk+2) 3)⟩
def itS(L:List Int)(b:Nat)(p:SS):Nat->SS
 | 0=>p
 | n+1=>stS L b (itS L b p n)
theorem Od{L:List Int}{b:Nat}{p:SS}:∀n,(itS L b p n).ss.length=p.ss.length+n/\(itS L b p n).kk<=p.kk+4 * n/\p.base<=(itS L b p n).base/\(itS L b p n).base<=p.base+3 * n:=by
 intro n
 induction n with
 | zero=>simp[itS]
 | succ n ih=>
  obtain⟨h1,h2,h3,h4⟩:=ih
  have r1:=A4 L ((itS L b p n).kk+2) 3 (by omega) (by omega)
  have r2:=A4 L ((itS L b p n).kk+3) 3 (by omega) (by omega)
  simp only[itS]
  unfold stS
  split
  .refine⟨by simp;omega,by simp only;omega,by simp only;omega,by simp only;omega⟩
  split
  .refine⟨by simp;omega,by simp only;omega,by simp only;omega,by simp only;omega⟩
  .refine⟨by simp;omega,by simp only;omega,by simp only;omega,by simp only;omega⟩
theorem ssl_eq(ss:List An)(s:An):(ss++[s]).map sA=ss.map sA++[sA s]/\(ss++[s]).length=(ss.map sA).length+1:=by simp
theorem n1_step{L:List Int}{bs:List AL}(hb:1<=bs.length/\bs.length<=24){g:List (List Int)}{p:SS}(hp:p.ss.length<6)(hkk:p.kk<=100000)(hba:0<=p.base/\p.base<=1000){k:Int}(hk:0<k/\k<=10){R:St->Prop}{post:Exit->St->Prop}
  (hR:∀st,Ren 1 st (B0 (qA L (stS L bs.length p).kk bs g [] (stS L bs.length p).ss (k-1) (stS L bs.length p).base em 0 0 0 0 0 0 0 0))->R st):
  T Try.prog 1 (zC (zB Try.f28) 1) (B0 (qA L p.kk bs g [] p.ss k p.base em 0 0 0 0 0 0 0 0)) (andThen R post):=by
 obtain⟨ss,kk,base⟩:=p
 simp only at hp hkk hba
 have hsm:(ss.map sA).length=ss.length:=by simp
 have dd:=MU ss.length (by omega)
 have hsz:(B9 ss.length).size<=2:=by unfold B9;split<;>exact nL rfl
 have dk:decide (0<k)=true:=SE hk.1
 have wk:i64.wrap (k-1)=k-1:=A6 _ (by omega) (by omega)
 have fsz:1+(B9 ss.length).size<=9223372036854775807:=by omega
 have n0:=A5 L kk bs.length (by omega)
 have n1:=A5 L (kk+1) bs.length (by omega)
 have n2:=A5 L (kk+2) bs.length (by omega)
 have m2:=A5 L (kk+2) 3 (by omega)
 have m3:=A5 L (kk+3) 3 (by omega)
 have c0:=A5 L kk 2 (by omega)
 have r2:=A4 L (kk+2) 3 (by omega) (by omega)
 have r3:=A4 L (kk+3) 3 (by omega) (by omega)
 have w2:i64.wrap (1+Ah L (kk+2) 3)=1+Ah L (kk+2) 3:=A6 _ (by omega) (by omega)
 have w3:i64.wrap (1+Ah L (kk+3) 3)=1+Ah L (kk+3) 3:=A6 _ (by omega) (by omega)
 have v2:i64.wrap (base+(1+Ah L (kk+2) 3))=base+(1+Ah L (kk+2) 3):=A6 _ (by omega) (by omega)
 have v3:i64.wrap (base+(1+Ah L (kk+3) 3))=base+(1+Ah L (kk+3) 3):=A6 _ (by omega) (by omega)
 have fin:∀(dep:Bool) (t:Nat) (bb:Int) (s:An) st,s.dep=dep->Ren 1 st (St.mk 191 [(0,AV.ptr 0 0 0),(4,AV.ptr 1 0 0),(5,AV.ptr 2 0 0),(8,AV.int i64 bb),(9,AV.int i64 (k-1))] [some (Af L t),some zB8,
   some (Blk.mk [AV.agg [AV.sl 3 0 bs.length,AV.sl 4 0 g.length,AV.sl 5 0 ((ss.map sA).length+1),AV.nils,AV.int i64 0,AV.int i64 0,AV.int i64 0,AV.int i64 0]] 8 false true none),some (bsB bs),some (gB g),some (Blk.mk (ss.map sA++[sA s]) 6 true true none)])->
   Ren 1 st (B0 (qA L t bs g [] (ss++[s]) (k-1) bb em 0 0 0 0 0 0 0 0)):=fun dep t bb s st _ h=>by
  obtain⟨e1,e2⟩:=ssl_eq ss s
  unfold B0 nA2 ssB
  simp only[qA]
  rw[e1,e2]
  exact h
 unfold stS at hR
 simp only at hR
 by_cases h0:ss.length=0
 .rw[Sw h0] at hR
  refine T.path mix (nul_0 (qA L kk bs g [] ss k base (B9 ss.length) 0 (Ah L kk bs.length) (Ah L (kk+1) bs.length) (Ah L (kk+2) 3) 0 (kk+1) (kk+2) (kk+3)) dk dd fsz (by simp[qA,iN,h0]) n0 n1 m2 (by simp only[qA,hsm]) (by simp) (by simp only[qA,hsm,Tc];omega) (by simp only[qA,hsm,Tc];omega) ?_)
  intro st hst
  simp only[qA,wk,w2,v2] at hst
  exact hR st (fin true _ _ (spZ L bs.length ss.length kk base true) st rfl hst)
 .rw[Sx h0] at hR
  have hz:(iN ss.length==0)=false:=by simp only[iN,S8,ne_eq];omega
  by_cases h2:2<ss.length
  .rw[Sw h2] at hR
   refine T.path mix (nul_1 (qA L kk bs g [] ss k base (B9 ss.length) (Ah L kk 2) (Ah L (kk+1) bs.length) (Ah L (kk+2) bs.length) (Ah L (kk+3) 3) (kk+1) (kk+2) (kk+3) (kk+4)) dk dd fsz hz (SE (by simp only[qA,iN];omega)) c0 n1 n2 m3 (by simp only[qA,hsm]) (by simp) (by simp only[qA,hsm,Tc];omega) (by simp only[qA,hsm,Tc];omega) ?_)
   intro st hst
   simp only[qA,wk,w3,v3] at hst
   exact hR st (fin (Ah L kk 2==0) _ _ (spZ L bs.length ss.length (kk+1) base (Ah L kk 2==0)) st rfl hst)
  .rw[Sx h2] at hR
   refine T.path mix (nul_2 (qA L kk bs g [] ss k base (B9 ss.length) 0 (Ah L kk bs.length) (Ah L (kk+1) bs.length) (Ah L (kk+2) 3) 0 (kk+1) (kk+2) (kk+3)) dk dd fsz hz (SD (by simp only[qA,iN];omega)) n0 n1 m2 (by simp only[qA,hsm]) (by simp) (by simp only[qA,hsm,Tc];omega) (by simp only[qA,hsm,Tc];omega) ?_)
   intro st hst
   simp only[qA,wk,w2,v2] at hst
   exact hR st (fin false _ _ (spZ L bs.length ss.length kk base false) st rfl hst)
theorem LessB_zS{bs:List AL}{g:List (List Int)}:Co (nA1 bs g) (nA2 bs g []):=by
 refine⟨rfl,fun _=>rfl,rfl,SJ _,fun i e' h=>?_,fun h=>(by cases h),fun h=>(by cases h)⟩
 match i,h with
 | 0,h=>
  simp[nA2] at h;subst h
  refine⟨_,rfl,rfl,fun j c' hj=>?_⟩
  match j,hj with
  | 0,hj=>simp[AV.cells] at hj;subst hj;exact⟨_,rfl,.refl _⟩
  | 1,hj=>simp[AV.cells] at hj;subst hj;exact⟨_,rfl,.refl _⟩
  | 2,hj=>simp[AV.cells] at hj;subst hj;exact⟨.nils,rfl,.nilS 5 0⟩
  | 3,hj=>simp[AV.cells] at hj;subst hj;exact⟨_,rfl,.refl _⟩
  | 4,hj=>simp[AV.cells] at hj;subst hj;exact⟨_,rfl,.refl _⟩
  | 5,hj=>simp[AV.cells] at hj;subst hj;exact⟨_,rfl,.refl _⟩
  | 6,hj=>simp[AV.cells] at hj;subst hj;exact⟨_,rfl,.refl _⟩
  | 7,hj=>simp[AV.cells] at hj;subst hj;exact⟨_,rfl,.refl _⟩
  | j+8,hj=>simp[AV.cells] at hj
 | i+1,h=>simp[nA2] at h
theorem ren_s(q:QA)(hs:q.ss=[]):Ren 1 (DZ q) (B0 q):=by
 refine Ren.less rfl (by simp[DZ,B0]) (fun s=>.refl _) fun b blk' h=>?_
 match b,h with
 | 0,h=>exact .inl ⟨by simp[DZ],_,rfl,.inl (by simpa [B0,nth] using h.symm)⟩
 | 1,h=>exact .inl ⟨by simp[DZ],_,rfl,.inl (by simpa [B0,nth] using h.symm)⟩
 | 2,h=>
  simp only[B0,nth,Sd] at h;subst h
  exact .inl ⟨by simp[DZ],_,rfl,.inr (by rw[hs];exact LessB_zS)⟩
 | 3,h=>exact .inl ⟨by simp[DZ],_,rfl,.inl (by simpa [B0,nth] using h.symm)⟩
 | 4,h=>exact .inl ⟨by simp[DZ],_,rfl,.inl (by simpa [B0,nth] using h.symm)⟩
 | 5,h=>
  simp only[B0,nth,Sd] at h;subst h
  exact .inr ⟨by simp[DZ],by simp[ssB,hs],rfl,rfl,rfl⟩
 | b+6,h=>simp[B0,nth] at h
theorem n1_run{L:List Int}{bs:List AL}(hb:1<=bs.length/\bs.length<=24){g:List (List Int)}{kk K:Nat}(hkk:kk<=90000)(hK:3<=K/\K<=5){base:Int}(hba:0<=base/\base<=900){post:Exit->St->Prop}
  (hX:T Try.prog 1 (zC (zB Try.f28) 1) (B0 (qA L (itS L bs.length ⟨[],kk,base⟩ K).kk bs g [] (itS L bs.length ⟨[],kk,base⟩ K).ss 0 (itS L bs.length ⟨[],kk,base⟩ K).base em 0 0 0 0 0 0 0 0)) (andThen (fun _=>False) (TK Try.prog 1 post (zK (zB Try.f28) 1)))):
  T Try.prog 1 (.loop (zC (zB Try.f28) 1)) (DZ (qA L kk bs g [] [] (K:Int) base em 0 0 0 0 0 0 0 0)) (TK Try.prog 1 post (zK (zB Try.f28) 1)):=by
 refine T.less (ren_s _ rfl) ?_
 suffices hh:T Try.prog 1 (.loop (zC (zB Try.f28) 1)) (B0 (qA L (itS L bs.length ⟨[],kk,base⟩ 0).kk bs g [] (itS L bs.length ⟨[],kk,base⟩ 0).ss ((K:Int)-((0:Nat):Int)) (itS L bs.length ⟨[],kk,base⟩ 0).base em 0 0 0 0 0 0 0 0)) (TK Try.prog 1 post (zK (zB Try.f28) 1)) by
  simpa [itS] using hh
 refine T.loop (fun m:Nat=>B0 (qA L (itS L bs.length ⟨[],kk,base⟩ m).kk bs g [] (itS L bs.length ⟨[],kk,base⟩ m).ss ((K:Int)-(m:Int)) (itS L bs.length ⟨[],kk,base⟩ m).base em 0 0 0 0 0 0 0 0)) (fun m=>m<=K) (fun m=>K+1-m) 0 (SK _) ?_
 intro m hm
 obtain⟨h1,h2,h3,h4⟩:=Od (L:=L) (b:=bs.length) (p:=⟨[],kk,base⟩) m
 simp only[Te,SN] at h1 h2 h3 h4
 by_cases h:m<K
 .refine n1_step hb (by omega) (by omega) (by omega) (by omega) fun st hst=>⟨m+1,?_,h,by omega⟩
  have e:(K:Int)-(m:Int)-1=(K:Int)-((m+1:Nat):Int):=by omega
  rw[e] at hst
  exact hst
 .obtain rfl:m=K:=by omega
  have e:(m:Int)-(m:Int)=0:=by omega
  rw[e]
  exact hX.mono fun ex st hp=>by
   cases ex with
   | normal=>exact hp.elim
   | _=>exact hp
def Ei(q:QF):St:={n:=Try.f28.ntmps,fr:=[(0,.ptr 0 0 0),(4,.ptr 1 0 0),(5,.ptr 2 0 0),(12,.ptr 6 0 0),(14,.int .i64 q.k)],hp:=[some (Af q.L q.kk),some zB8,some (nA3 q.bs q.g q.ss q.cx q.cy q.cz q.cw),some (bsB q.bs),some (gB q.g),some (ssB q.ss),some (capB q.cg q.cs q.cc)]}
theorem LessB_zR{bs:List AL}{g:List (List Int)}{ss:List An}{x y z w:Int}:Co (nA3 bs g ss x y z w) (nA5 bs g ss [] x y z w):=by
 refine⟨rfl,fun _=>rfl,rfl,SJ _,fun i e' h=>?_,fun h=>(by cases h),fun h=>(by cases h)⟩
 match i,h with
 | 0,h=>
  simp[nA5] at h;subst h
  refine⟨_,rfl,rfl,fun j c' hj=>?_⟩
  match j,hj with
  | 0,hj=>simp[AV.cells] at hj;subst hj;exact⟨_,rfl,.refl _⟩
  | 1,hj=>simp[AV.cells] at hj;subst hj;exact⟨_,rfl,.refl _⟩
  | 2,hj=>simp[AV.cells] at hj;subst hj;exact⟨_,rfl,.refl _⟩
  | 3,hj=>simp[AV.cells] at hj;subst hj;exact⟨.nils,rfl,.nilS 7 0⟩
  | 4,hj=>simp[AV.cells] at hj;subst hj;exact⟨_,rfl,.refl _⟩
  | 5,hj=>simp[AV.cells] at hj;subst hj;exact⟨_,rfl,.refl _⟩
  | 6,hj=>simp[AV.cells] at hj;subst hj;exact⟨_,rfl,.refl _⟩
  | 7,hj=>simp[AV.cells] at hj;subst hj;exact⟨_,rfl,.refl _⟩
  | j+8,hj=>simp[AV.cells] at hj
 | i+1,h=>simp[nA5] at h
theorem ren_r(q:QF)(hs:q.rs=[]):Ren 1 (Ei q) (Cl q):=by
 refine Ren.less rfl (by simp[Ei,Cl,hF]) (fun s=>.refl _) fun b blk' h=>?_
 match b,h with
 | 0,h=>exact .inl ⟨by simp[Ei],_,rfl,.inl (by simpa [Cl,hF,nth] using h.symm)⟩
 | 1,h=>exact .inl ⟨by simp[Ei],_,rfl,.inl (by simpa [Cl,hF,nth] using h.symm)⟩
 | 2,h=>
  simp only[Cl,hF,nth,Sd] at h;subst h
  exact .inl ⟨by simp[Ei],_,rfl,.inr (by rw[hs];exact LessB_zR)⟩
 | 3,h=>exact .inl ⟨by simp[Ei],_,rfl,.inl (by simpa [Cl,hF,nth] using h.symm)⟩
 | 4,h=>exact .inl ⟨by simp[Ei],_,rfl,.inl (by simpa [Cl,hF,nth] using h.symm)⟩
 | 5,h=>exact .inl ⟨by simp[Ei],_,rfl,.inl (by simpa [Cl,hF,nth] using h.symm)⟩
 | 6,h=>exact .inl ⟨by simp[Ei],_,rfl,.inl (by simpa [Cl,hF,nth] using h.symm)⟩
 | 7,h=>
  simp only[Cl,hF,nth,Sd] at h;subst h
  exact .inr ⟨by simp[Ei],by simp[dB,hs],rfl,rfl,rfl⟩
 | b+8,h=>simp[Cl,hF,nth] at h
theorem Qc{n:Ab}(hrw:Rows n.nx)(hv:Aw n)(hrs:n.rs=[]):CT Try.prog 58 [] [AV.agg [AV.lst (List.map bA n.bs),AV.lst (gL n.nx),AV.lst (List.map sA n.ss),AV.nils,AV.int i64 n.q,AV.int i64 n.a,AV.int i64 n.d,AV.int i64 n.p]] []
  (AV.tup [AV.agg [AV.int i64 (iN (Bv n).length),AV.any,AV.int i64 (B4 n),AV.int i64 (DA (Bv n) (B4 n))],AV.int i64 0]):=by
 have h:=fleet_ct hrw hv
 have h2:=h.less (res':=AV.tup [AV.agg [AV.int i64 (iN (Bv n).length),AV.any,AV.int i64 (B4 n),AV.int i64 (DA (Bv n) (B4 n))],AV.int i64 0]) ?_
 .refine h2.lessArgs rfl fun i a' ha=>?_
  match i,ha with
  | 0,ha=>
   simp at ha;subst ha
   refine⟨_,rfl,Bw.agg rfl fun j c' hj=>?_⟩
   match j,hj with
   | 0,hj=>simp at hj;subst hj;exact⟨_,rfl,.refl _⟩
   | 1,hj=>simp at hj;subst hj;exact⟨_,rfl,.refl _⟩
   | 2,hj=>simp at hj;subst hj;exact⟨_,rfl,.refl _⟩
   | 3,hj=>simp at hj;subst hj;rw[hrs];exact⟨.nils,rfl,.nilL⟩
   | 4,hj=>simp at hj;subst hj;exact⟨_,rfl,.refl _⟩
   | 5,hj=>simp at hj;subst hj;exact⟨_,rfl,.refl _⟩
   | 6,hj=>simp at hj;subst hj;exact⟨_,rfl,.refl _⟩
   | 7,hj=>simp at hj;subst hj;exact⟨_,rfl,.refl _⟩
   | j+8,hj=>simp at hj
  | i+1,ha=>simp at ha
 .intro φ A w v hv
  cases hv with
  | imm _ _ h=>cases h
  | tup cs vs hl hh=>
   refine .tup _ vs (by simpa using hl) fun i c u hc hu=>?_
   match i,hc with
   | 0,hc=>
    simp at hc;subst hc
    refine(Bw.agg (cs':=[.int .i64 (iN (Bv n).length),.any,.int .i64 (B4 n),.int .i64 (DA (Bv n) (B4 n))]) rfl fun j c' hj=>?_:Bw (AV.agg [.int .i64 (iN (Bv n).length),lI (Bv n),.int .i64 (B4 n),.int .i64 (DA (Bv n) (B4 n))]) _).2 _ _ _ _ (hh 0 _ u rfl hu)
    match j,hj with
    | 0,hj=>simp at hj;subst hj;exact⟨_,rfl,.refl _⟩
    | 1,hj=>simp at hj;subst hj;exact⟨lI (Bv n),rfl,.any rfl⟩
    | 2,hj=>simp at hj;subst hj;exact⟨_,rfl,.refl _⟩
    | 3,hj=>simp at hj;subst hj;exact⟨_,rfl,.refl _⟩
    | j+4,hj=>simp at hj
   | 1,hc=>exact hh 1 c u (by simpa using hc) hu
   | i+2,hc=>simp at hc
theorem n1_exit{L:List Int}{bs:List AL}{g:List (List Int)}{ss:List An}{kk:Nat}{base:Int}{x y z w v cg cs cc:Int}(hx:0<=x/\x<=10)(hw:0<=w/\w<=10)(hv:0<=v/\v<=10)
  (n0:CT Try.prog 15 [some (Af L kk)] [.ptr 0 0 0,.int .i64 4] [some (Af L (kk+1))] (.int .i64 x)) (n1:CT Try.prog 15 [some (Af L (kk+1))] [.ptr 0 0 0,.int .i64 3] [some (Af L (kk+2))] (.int .i64 y))
  (n2:CT Try.prog 15 [some (Af L (kk+2))] [.ptr 0 0 0,.int .i64 3] [some (Af L (kk+3))] (.int .i64 z)) (n3:CT Try.prog 15 [some (Af L (kk+3))] [.ptr 0 0 0,.int .i64 8] [some (Af L (kk+4))] (.int .i64 w))
  (n4:CT Try.prog 15 [some (Af L (kk+4))] [.ptr 0 0 0,.int .i64 3] [some (Af L (kk+5))] (.int .i64 v))
  (fl:CT Try.prog 58 [] [AV.agg [AV.lst (List.map bA bs),AV.lst (gL g),AV.lst (List.map sA ss),AV.nils,AV.int i64 (1+x),AV.int i64 y,AV.int i64 z,AV.int i64 (1+w)]] [] (AV.tup [AV.agg [AV.int i64 cg,AV.any,AV.int i64 cs,AV.int i64 cc],AV.int i64 0]))
  {R:St->Prop} {post:Exit->St->Prop}
  (hT:T Try.prog 1 (.loop (zC (zB Try.f28) 2)) (Cl ⟨L,kk+5,bs,g,ss,[],1+x,y,z,1+w,cg,cs,cc,1+v,[],0,0,s0,false,0,0⟩) (TK Try.prog 1 post (zK (zB Try.f28) 2))):
  T Try.prog 1 (zC (zB Try.f28) 1) (B0 (qA L kk bs g [] ss 0 base em 0 0 0 0 0 0 0 0)) (andThen R (TK Try.prog 1 post (zK (zB Try.f28) 1))):=by
 have w0:i64.wrap (1+x)=1+x:=A6 _ (by omega) (by omega)
 have w3:i64.wrap (1+w)=1+w:=A6 _ (by omega) (by omega)
 have w4:i64.wrap (1+v)=1+v:=A6 _ (by omega) (by omega)
 have hbl:bs.length=(bs.map bA).length:=by simp
 have hgl:g.length=(gL g).length:=(BJ g).symm
 have hsl:ss.length=(ss.map sA).length:=by simp
 have k:=nux_0 (post:=post) ⟨L,kk,kk+1,kk+2,kk+3,kk+4,bs,g,[],ss,[],0,base,em,x,y,z,w,cg,cs,cc,[],0,0,s0,false,v⟩ (by simp) n0 n1 n2 n3 hbl hgl hsl (by simp only[w0,w3];exact fl) n4
  (by simp only[w0,w3,w4];exact T.less (ren_r ⟨L,kk+5,bs,g,ss,[],1+x,y,z,1+w,cg,cs,cc,1+v,[],0,0,s0,false,0,0⟩ rfl) hT)
 exact T.out mix k
structure SpI(b:Nat)(b0:Int)(p:SS):Prop where
 base:p.base=b0+(p.ss.map (·.k)).sum
 el:∀(i:Nat) (s:An),p.ss[i]?=some s->s.nm=ES i/\(i=0->s.dep=true)/\(i=1\/i=2->s.dep=false)/\(0<=s.i/\s.i<(b:Int))/\(0<=s.o/\s.o<(b:Int))/\(1<=s.k/\s.k<=3)/\s.b=b0+((p.ss.take i).map (·.k)).sum
theorem SpI.push{b:Nat}{b0:Int}{p:SS}(h:SpI b b0 p){s:An}{kk:Nat}(h1:s.nm=ES p.ss.length)(h2:p.ss.length=0->s.dep=true)(h3:p.ss.length=1\/p.ss.length=2->s.dep=false)
  (h4:0<=s.i/\s.i<(b:Int)) (h5:0<=s.o/\s.o<(b:Int)) (h6:1<=s.k/\s.k<=3) (h7:s.b=p.base):SpI b b0 ⟨p.ss++[s],kk,p.base+s.k⟩:=by
 refine⟨by simp[h.base,List.sum_append];omega,fun i t ht=>?_⟩
 simp only at ht ⊢
 rw[S7] at ht
 split at ht
 .rename_i hi
  have:=h.el i t ht
  rw[List.take_append_of_le_length (by omega)]
  exact this
 .rename_i hi
  have hil:i=p.ss.length:=by
   by_cases e:i=p.ss.length
   .exact e
   .rw[SW (by simp;omega)] at ht;cases ht
  subst hil
  simp at ht;subst ht
  refine⟨h1,h2,h3,h4,h5,h6,?_⟩
  rw[List.take_append_of_le_length (SJ _),List.take_length,h7,h.base]
theorem itS_ok{L:List Int}{b:Nat}(hb:1<=b/\b<=24){kk:Nat}{b0:Int}:∀n,SpI b b0 (itS L b ⟨[],kk,b0⟩ n):=by
 intro n
 induction n with
 | zero=>exact⟨by simp[itS],fun i s h=>by simp[itS] at h⟩
 | succ n ih=>
  have r:=fun k=>A4 L k (b:Int) (by omega) (by omega)
  have r3:=fun k=>A4 L k 3 (by omega) (by omega)
  simp only[itS]
  unfold stS
  split
  .rename_i h0
   exact ih.push (s:=spZ L b _ _ _ true) rfl (fun _=>rfl) (fun h=>by omega) (r _) (r _) ⟨by have:=r3 ((itS L b ⟨[],kk,b0⟩ n).kk+2);simp only[spZ];omega,by have:=r3 ((itS L b ⟨[],kk,b0⟩ n).kk+2);simp only[spZ];omega⟩ rfl
  split
  .rename_i h0 h2
   exact ih.push (s:=spZ L b _ _ _ _) rfl (fun h=>by omega) (fun h=>by omega) (r _) (r _) ⟨by have:=r3 ((itS L b ⟨[],kk,b0⟩ n).kk+1+2);simp only[spZ];omega,by have:=r3 ((itS L b ⟨[],kk,b0⟩ n).kk+1+2);simp only[spZ];omega⟩ rfl
  .rename_i h0 h2
   exact ih.push (s:=spZ L b _ _ _ false) rfl (fun h=>by omega) (fun _=>rfl) (r _) (r _) ⟨by have:=r3 ((itS L b ⟨[],kk,b0⟩ n).kk+2);simp only[spZ];omega,by have:=r3 ((itS L b ⟨[],kk,b0⟩ n).kk+2);simp only[spZ];omega⟩ rfl
theorem IA{L:List Int}{kk K i:Nat}{b:AL}(h:(bsZ L kk K)[i]?=some b):i<K/\b=HM L kk i:=by
 unfold bsZ at h
 rw[SI] at h
 cases hr:(List.range K)[i]? with
 | none=>rw[hr] at h;cases h
 | some j=>
  rw[hr] at h
  obtain⟨h1,h2⟩:=SA.1 hr
  simp at h1 h2
  simp at h
  subst h2
  exact⟨h1,h.symm⟩
theorem row_ok{r:List Int}{n v:Nat}(hl:r.length<=4)(hp:r.Pairwise (· < ·))(hr:∀w∈r,0<=w/\w<(n:Int)/\w≠(v:Int)):nxB r v n=true:=by
 rw[OS]
 have:fnd (AI r n v) 0 r.length=none:=by
  cases he:fnd (AI r n v) 0 r.length with
  | none=>rfl
  | some i=>
   exfalso
   obtain⟨h1,_,h3⟩:=Ea he
   have hi:i<r.length:=by omega
   have hm:r.getD i 0∈r:=by rw[Sz,Sy hi];exact S4 hi
   obtain⟨g1,g2,g3⟩:=hr _ hm
   unfold AI at h1
   simp only[S9,decide_eq_true_eq,SG,beq_iff_eq] at h1
   rcases h1 with h1 | h1 | h1 | ⟨h1,h2⟩
   .omega
   .omega
   .exact g3 h1
   .have:=List.pairwise_iff_getElem.1 hp (i-1) i (by omega) hi (by omega)
    rw[Sz,Sz,Sy hi,Sy (by omega:i-1<r.length)] at h2
    simp at h2
    omega
 rw[this];simpa using hl
theorem RG{L:List Int}{kk K:Nat}(hK:1<=K/\K<=24){g:List (List Int)}(hg:GI K 4 g){p:SS}(hp:SpI K (K:Int) p)(hl:3<=p.ss.length/\p.ss.length<=5){x y z w:Int}(hx:0<=x/\x<4)(hy:0<=y/\y<3)(hz:0<=z/\z<3)(hw:0<=w/\w<8):
  Aw ⟨bsZ L kk K,g,p.ss,[],1+x,y,z,1+w⟩:=by
 have hbl:=Jq L kk K
 have hT:∀(i:Nat) (s:An),p.ss[i]?=some s->CX ⟨bsZ L kk K,g,p.ss,[],1+x,y,z,1+w⟩ i s:=fun i s h=>by
  obtain⟨_,_,_,h4,h5,h6,h7⟩:=hp.el i s h
  exact⟨by simp only[hbl];exact h4,by simp only[hbl];exact h5,by omega,by unfold Av;simp only[hbl];exact h7⟩
 have hnm:∀(i:Nat) (s:An),p.ss[i]?=some s->s.nm=ES i/\i<6:=fun i s h=>⟨(hp.el i s h).1,by have:=(SA.1 h).1;omega⟩
 refine⟨Bj.2 (by simp only[hbl];omega),by simp only[hbl];exact hg.len,by simp only;omega,by simp,?_,fun i b h=>?_,fun i s h=>NA ?_ (hT i s h),?_,?_,fun i c h=>by simp at h⟩
 .unfold A9
  simp only[SG,Bj]
  omega
 .obtain⟨h1,rfl⟩:=IA h
  have r1:=A4 L (kk+2 * i) 9 (by omega) (by omega)
  have r2:=A4 L (kk+2 * i+1) 9 (by omega) (by omega)
  obtain⟨g1,g2,g3⟩:=hg.row i h1
  exact⟨nmBk_ok i (by omega),Bj.2 (by simp only[HM];omega),Bj.2 (by simp only[HM];omega),by simp only[hbl];exact row_ok g1 g2 g3⟩
 .obtain⟨e,hi⟩:=hnm i s h
  rw[e];exact nmSp_ok i hi
 .unfold BZ
  rw[List.nodup_append]
  refine⟨?_,?_,?_⟩
  .rw[List.nodup_iff_pairwise_ne,List.pairwise_iff_getElem]
   intro a b ha hb hab he
   simp only[List.getElem_map] at he
   have ga:=IA (Sy (l:=bsZ L kk K) (i:=a) (by simpa using ha))
   have gb:=IA (Sy (l:=bsZ L kk K) (i:=b) (by simpa using hb))
   rw[ga.2,gb.2] at he
   have:=nmBk_inj a (by omega) b (by omega) he
   omega
  .rw[List.nodup_iff_pairwise_ne,List.pairwise_iff_getElem]
   intro a b ha hb hab he
   simp only[List.getElem_map] at he
   obtain⟨ga,ha6⟩:=hnm a _ (Sy (by simpa using ha))
   obtain⟨gb,hb6⟩:=hnm b _ (Sy (by simpa using hb))
   rw[ga,gb] at he
   have:=nmSp_inj a ha6 b hb6 he
   omega
  .intro a ha b hb he
   obtain⟨s,hs,rfl⟩:=S3.1 ha
   obtain⟨t,ht,rfl⟩:=S3.1 hb
   obtain⟨i,hi⟩:=List.mem_iff_getElem?.1 hs
   obtain⟨j,hj⟩:=List.mem_iff_getElem?.1 ht
   obtain⟨h1,rfl⟩:=IA hi
   obtain⟨e,hj6⟩:=hnm j t hj
   rw[e] at he
   exact nm_dis i (by omega) j hj6 he
 .obtain⟨s,hs⟩:∃s,p.ss[0]?=some s:=⟨_,Sy (by omega)⟩
  obtain⟨_,h2,_,_,_,h6,_⟩:=hp.el 0 s hs
  refine⟨s.b,s,?_,h2 rfl,by omega,by omega⟩
  rw[List.take_length]
  exact SC hs
theorem Lq(c i:Nat):(List.replicate c false).getD i false=false:=by
 rw[Sz,SY];split<;>rfl
theorem P3(c:Nat)(s:An):FD (List.replicate c false) s=true:=by
 unfold FD
 rw[Lq,Lq]
 have:fnd (fun j=>(List.replicate c false).getD (s.b+(j:Int)).toNat false) 0 s.k.toNat=none:=by
  cases he:fnd (fun j=>(List.replicate c false).getD (s.b+(j:Int)).toNat false) 0 s.k.toNat with
  | none=>rfl
  | some i=>have:=(Ea he).1;rw[Lq] at this;cases this
 rw[this];rfl
theorem hasZ_nil(x:Int):AB [] x=false:=by
 cases h:AB [] x with
 | false=>rfl
 | true=>have:=G9.1 h;simp at this
theorem PL{s:An}(hk:0<=s.k):((CJ s []).length:Int)=if s.dep=true then s.k else 0:=by
 unfold CJ Bt
 split
 .rw[List.filter_eq_self.2 (fun x _=>by rw[hasZ_nil];rfl)]
  simp;omega
 .rfl
theorem Pu{n:Ab}(hv:Aw n)(c:Nat):∀i,i<=n.ss.length->Bk n (List.replicate c false) i=((Bz n.ss [] i).length:Int):=by
 intro i
 induction i with
 | zero=>intro _;simp[Bk,Bz]
 | succ i ih=>
  intro h
  obtain⟨s,hs⟩:∃s,n.ss[i]?=some s:=⟨_,Sy h⟩
  rw[KL hs,JZ hs,SR,ih (by omega),P3,Bool.and_true]
  have hk:=(hv.goodT i s hs).hk
  have:=PL (s:=s) (by omega)
  omega
theorem HS{ss:List An}{rs:List Int}{x:Int}:∀i,i<=ss.length->(x∈Bz ss rs i↔(∃s∈ss.take i,s.dep=true/\s.b<=x/\x<s.b+s.k)/\x∉rs):=by
 intro i hi
 unfold Bz
 rw[List.mem_flatMap]
 constructor
 .rintro⟨s,hs,hx⟩
  unfold CJ at hx
  split at hx
  .rename_i hd
   unfold Bt at hx
   rw[List.mem_filter] at hx
   obtain⟨h1,h2⟩:=hx
   obtain⟨t,ht,rfl⟩:=S3.1 h1
   have:=Tp.1 ht
   refine⟨⟨s,hs,hd,by omega,by omega⟩,fun hm=>?_⟩
   rw[G9.2 hm] at h2;cases h2
  .cases hx
 .rintro⟨⟨s,hs,hd,h1,h2⟩,hn⟩
  refine⟨s,hs,?_⟩
  unfold CJ Bt
  rw[Sw hd,List.mem_filter]
  refine⟨S3.2 ⟨(x-s.b).toNat,Tp.2 (by omega),by omega⟩,?_⟩
  cases hh:AB rs x with
  | false=>rfl
  | true=>exact absurd (G9.1 hh) hn
theorem nodup_le:∀{l m:List Int},l.Nodup->(∀x∈l,x∈m)->l.length<=m.length:=by
 intro l
 induction l with
 | nil=>intro m _ _;simp
 | cons a l ih=>
  intro m hn hs
  rw[List.nodup_cons] at hn
  have ha:=hs a (by simp)
  have:=ih (m:=m.erase a) hn.2 fun x hx=>(List.mem_erase_of_ne (a:=x) (b:=a) (fun e=>hn.1 (by rw[<-e];exact hx))).2 (hs x (SP _ hx))
  rw[List.length_erase_of_mem ha] at this
  have:0<m.length:=Tu ha
  simp only[Td];omega
theorem PK{n:Ab}(hv:Aw n):∀i,i<=n.ss.length->(Bz n.ss [] i).Nodup:=by
 intro i
 induction i with
 | zero=>intro _;simp[Bz]
 | succ i ih=>
  intro h
  obtain⟨s,hs⟩:∃s,n.ss[i]?=some s:=⟨_,Sy h⟩
  rw[JZ hs,List.nodup_append]
  refine⟨ih (by omega),?_,fun a ha b hb e=>?_⟩
  .unfold CJ Bt
   split
   .refine List.Pairwise.filter _ ?_
    rw[List.pairwise_map]
    refine List.Pairwise.imp ?_ (List.nodup_iff_pairwise_ne.1 List.nodup_range)
    intro x y hxy e
    omega
   .simp
  .subst e
   obtain⟨⟨t,ht,_,h1,h2⟩,_⟩:=(HS i (by omega)).1 ha
   obtain⟨j,hj⟩:=List.mem_iff_getElem?.1 ht
   have hji:j<i:=by have:=(SA.1 hj).1;simp at this;omega
   have hjt:n.ss[j]?=some t:=by rw[SQ,Sw hji] at hj;exact hj
   have g1:=(hv.goodT j t hjt).hb
   have g2:=(hv.goodT i s hs).hb
   have hm:=Iv hv (i:=j+1) (j:=i) (by omega) (by omega)
   rw[C9 hjt] at hm
   unfold CJ Bt at hb
   split at hb
   .rw[List.mem_filter] at hb
    obtain⟨t',_,e'⟩:=S3.1 hb.1
    omega
   .cases hb
theorem Nl{n:Ab}(hv:Aw n)(c:Nat){rs:List Int}(h:(rs.length:Int)<Bk n (List.replicate c false) n.ss.length):Bz n.ss rs n.ss.length≠[]:=by
 intro he
 have h1:=Pu hv c n.ss.length (SJ _)
 have h2:=nodup_le (PK hv n.ss.length (SJ _)) (m:=rs) fun x hx=>by
  obtain⟨g1,_⟩:=(HS _ (SJ _)).1 hx
  by_cases hm:x∈rs
  .exact hm
  .have:=(HS (rs:=rs) _ (SJ _)).2 ⟨g1,hm⟩
   rw[he] at this;cases this
 omega
theorem cap_ok{n:Ab}(hrw:Rows n.nx)(hv:Aw n):1<=DA (Bv n) (B4 n)/\DA (Bv n) (B4 n)<=B4 n:=by
 have hs1:1<=B4 n:=by
  unfold B4
  rw[Pu hv _ _ (SJ _)]
  obtain⟨x,s,hs,hd,h1,h2⟩:=hv.dep
  have hm:x∈Bz n.ss [] n.ss.length:=(HS _ (SJ _)).2 ⟨⟨s,hs,hd,h1,h2⟩,by simp⟩
  have:=Tu hm
  omega
 have hg2:(Bv n).length≠1:=by
  intro he
  unfold Bv Ic at he
  rw[Sw hv.chk] at he
  obtain⟨hg,_⟩:=Hw hrw hv.chk
  obtain⟨⟨_,h2,h3⟩,_⟩:=QB hg (by intro e;rw[e] at he;simp at he)
  generalize Cg n.nx (List.replicate n.bs.length false) n.nx.length=o at he h2 h3
  have hm:o.getD 0 0∈o:=by rw[Sz,Sy (by omega:0<o.length)];exact S4 (by omega)
  have h4:=h3 0 (by omega)
  rw[he] at h4
  obtain⟨g1,g2,_⟩:=h2 _ hm
  have:=(hg.row (o.getD 0 0).toNat (by omega)).2 (o.getD 0 0) (by simpa using h4)
  omega
 unfold DA
 split
 .split<;>omega
 .omega
def nxR(Q:QF):QF:={Q with kk:=Q.kk+1,rs:=Q.rs++[Fm Q],k:=Q.k-1}
def itR(Q:QF):Nat->QF
 | 0=>Q
 | n+1=>nxR (itR Q n)
def CH(Q:QF)(rs:List Int):Ab:=⟨Q.bs,Q.g,Q.ss,rs,Q.cx,Q.cy,Q.cz,Q.cw⟩
def Fp(n:Ab)(rs:List Int):Prop:=∀(i:Nat) (c:Int),rs[i]?=some c->AQ n n.ss.length c/\c∉rs.take i
theorem newR_ok{Q:QF}(hne:Bz Q.ss Q.rs Q.ss.length≠[])(hl:(Bz Q.ss Q.rs Q.ss.length).length<=1000):(∃s∈Q.ss,s.dep=true/\s.b<=Fm Q/\Fm Q<s.b+s.k)/\Fm Q∉Q.rs:=by
 have hp:=List.length_pos_iff.2 hne
 have r:=A4 Q.L Q.kk ((Bz Q.ss Q.rs Q.ss.length).length:Int) (by omega) (by omega)
 have hm:Fm Q∈Bz Q.ss Q.rs Q.ss.length:=by
  unfold Fm
  rw[Sz,Sy (by omega)]
  exact S4 _
 obtain⟨⟨s,hs,h⟩,h2⟩:=(HS _ (SJ _)).1 hm
 rw[List.take_length] at hs
 exact⟨⟨s,hs,h⟩,h2⟩
theorem Fp.push{n:Ab}{rs:List Int}(h:Fp n rs){c:Int}(h1:AQ n n.ss.length c)(h2:c∉rs):Fp n (rs++[c]):=by
 intro i d hd
 rw[S7] at hd
 split at hd
 .rename_i hi
  rw[List.take_append_of_le_length (by omega)]
  exact h i d hd
 .rename_i hi
  have hil:i=rs.length:=by
   by_cases e:i=rs.length
   .exact e
   .rw[SW (by simp;omega)] at hd;cases hd
  subst hil
  simp at hd;subst hd
  rw[List.take_append_of_le_length (SJ _),List.take_length]
  exact⟨h1,h2⟩
theorem Aw.robots{n:Ab}(h:Aw n){rs:List Int}(hr:Fp n rs)(hl:rs.length<=8):Aw {n with rs:=rs}:=
 ⟨h.nb,h.nx,h.ns,hl,(by have:=h.cfg;unfold A9 at this ⊢;exact this),fun i b hb=>⟨(h.blk i b hb).nm,(h.blk i b hb).x,(h.blk i b hb).y,(h.blk i b hb).nx⟩,fun i s hs=>⟨(h.spu i s hs).nm,(h.spu i s hs).hi,(h.spu i s hs).ho,(h.spu i s hs).hk,(h.spu i s hs).hb⟩,h.nod,h.dep,hr⟩
theorem Ot(Q:QF):∀m,itR Q m={Q with kk:=Q.kk+m,rs:=(itR Q m).rs,k:=Q.k-(m:Int)}:=by
 intro m
 induction m with
 | zero=>simp[itR]
 | succ m ih=>
  have e:itR Q (m+1)=nxR (itR Q m):=rfl
  rw[e]
  generalize itR Q m=R at ih ⊢
  rw[ih]
  simp only[nxR]
  congr 1
  omega
theorem M2{Q:QF}(hv:Aw (CH Q []))(hrs:Q.rs=[]){c:Nat}{M:Nat}(hM:(M:Int)<=Bk (CH Q []) (List.replicate c false) Q.ss.length):∀m,m<=M->(itR Q m).rs.length=m/\Fp (CH Q []) (itR Q m).rs:=by
 intro m
 induction m with
 | zero=>intro _;simp only[itR];rw[hrs];exact⟨rfl,fun i c h=>by simp at h⟩
 | succ m ih=>
  intro hm
  obtain⟨h1,h2⟩:=ih (by omega)
  have hne:=Nl hv c (rs:=(itR Q m).rs) (by rw[h1];exact Int.lt_of_lt_of_le (by omega) hM)
  have hfl:=Oo (ss:=Q.ss) (rs:=(itR Q m).rs) (fun s hs=>by obtain⟨j,hj⟩:=List.mem_iff_getElem?.1 hs;exact(hv.goodT j s hj).hk.2) Q.ss.length (SJ _)
  have hns:=hv.ns
  simp only[CH] at hns hne
  have e:=Ot Q m
  have hss:(itR Q m).ss=Q.ss:=by rw[e]
  have ok:=newR_ok (Q:=itR Q m) (by rw[hss];exact hne) (by rw[hss];omega)
  rw[hss] at ok
  refine⟨by simp only[itR,nxR,SR,Tc,h1],?_⟩
  simp only[itR,nxR]
  refine h2.push ?_ ok.2
  obtain⟨s,hs,hd,g1,g2⟩:=ok.1
  refine⟨s,?_,hd,g1,g2⟩
  simp only[CH]
  rw[List.take_length]
  exact hs
def l3n(q:QF):St:={n:=Try.f28.ntmps,fr:=[(0,.ptr 0 0 0),(4,.ptr 1 0 0),(5,.ptr 2 0 0),(12,.ptr 6 0 0),(14,.int .i64 q.k),(15,.nils),(16,.int .i64 0)],hp:=hF q}
theorem FU{a b:AV}(h:Bw a b)(k s:Nat){r r':List (Nat×AV)}(hr:Bw (AX.Ak r s) (AX.Ak r' s)):Bw (AX.Ak ((k,a)::r) s) (AX.Ak ((k,b)::r') s):=by
 simp only[AX.Ak]
 cases Nat.beq k s with
 | true=>exact h
 | false=>exact hr
theorem ren_f(q:QF):Ren 1 (l3n q) (Cy (frU q [] 0 0 s0 false)):=by
 refine Ren.less rfl (by simp[l3n,Cy,hF]) (fun s=>?_) fun b blk' h=>?_
 .exact FU (.refl _) _ _ (FU (.refl _) _ _ (FU (.refl _) _ _ (FU (.refl _) _ _ (FU (.refl _) _ _ (FU (.nilS 8 0) _ _ (FU (.refl _) _ _ (.refl _)))))))
 match b,h with
 | 0,h=>exact .inl ⟨by simp[l3n,hF],_,rfl,.inl (by simpa [Cy,frU,hF,nth] using h.symm)⟩
 | 1,h=>exact .inl ⟨by simp[l3n,hF],_,rfl,.inl (by simpa [Cy,frU,hF,nth] using h.symm)⟩
 | 2,h=>exact .inl ⟨by simp[l3n,hF],_,rfl,.inl (by simpa [Cy,frU,hF,nth] using h.symm)⟩
 | 3,h=>exact .inl ⟨by simp[l3n,hF],_,rfl,.inl (by simpa [Cy,frU,hF,nth] using h.symm)⟩
 | 4,h=>exact .inl ⟨by simp[l3n,hF],_,rfl,.inl (by simpa [Cy,frU,hF,nth] using h.symm)⟩
 | 5,h=>exact .inl ⟨by simp[l3n,hF],_,rfl,.inl (by simpa [Cy,frU,hF,nth] using h.symm)⟩
 | 6,h=>exact .inl ⟨by simp[l3n,hF],_,rfl,.inl (by simpa [Cy,frU,hF,nth] using h.symm)⟩
 | 7,h=>exact .inl ⟨by simp[l3n,hF],_,rfl,.inl (by simpa [Cy,frU,hF,nth] using h.symm)⟩
 | 8,h=>
  have h:some (dB [])=some blk':=h
  simp only[Sd] at h;subst h
  exact .inr ⟨by simp[l3n,hF],rfl,rfl,rfl,rfl⟩
 | b+9,h=>simp[Cy,frU,hF,nth] at h
theorem n2_run{Q:QF}(hv:Aw (CH Q []))(hrs:Q.rs=[]){c:Nat}(hcc:1<=Q.cc/\Q.cc<=Bk (CH Q []) (List.replicate c false) Q.ss.length)(hk:1<=Q.k/\Q.k<=5)(hkk:Q.kk<=90000){M:Nat}(hM:(M:Int)=if Q.k<=Q.cc then Q.k else Q.cc):
  T Try.prog 1 (.loop (zC (zB Try.f28) 2)) (Cl Q) (TK Try.prog 1 (Fin Try.prog Try.f28 1 [some (Af Q.L (Q.kk+M))] (Ag (CH Q (itR Q M).rs))) (zK (zB Try.f28) 2)):=by
 have hM1:(M:Int)<=Q.k/\(M:Int)<=Q.cc/\((M:Int)=Q.k\/(M:Int)=Q.cc):=by split at hM<;>omega
 have hok:=M2 hv hrs (c:=c) (M:=M) (by omega)
 have hns:=hv.ns
 simp only[CH] at hns
 refine T.loop (fun m:Nat=>Cl (itR Q m)) (fun m=>m<=M) (fun m=>M+1-m) 0 (SK _) ?_
 intro m hm
 obtain⟨h1,h2⟩:=hok m hm
 have e:=Ot Q m
 by_cases h:m<M
 .have hss:(itR Q m).ss=Q.ss:=by rw[e]
  have hkm:(itR Q m).k=Q.k-(m:Int):=by rw[e]
  have hcm:(itR Q m).cc=Q.cc:=by rw[e]
  have hkkm:(itR Q m).kk=Q.kk+m:=by rw[e]
  have hne:=Nl hv c (rs:=(itR Q m).rs) (by rw[h1];exact Int.lt_of_lt_of_le (by omega) hcc.2)
  simp only[CH] at hne
  have hsp:SpOk (itR Q m).ss:=by
   rw[hss]
   refine⟨hns,fun s hs=>?_,fun s hs=>?_⟩
   .obtain⟨j,hj⟩:=List.mem_iff_getElem?.1 hs;exact(hv.goodT j s hj).hk
   .obtain⟨j,hj⟩:=List.mem_iff_getElem?.1 hs
    have g:=(hv.goodT j s hj).hb
    have b:=hv.bd j
    have nb:=hv.nb24
    have hjl:=(SA.1 hj).1
    omega
  refine T.path mix (nvl_0 (itR Q m) (SE (by rw[hkm];omega)) (SE (by simp only[iN];rw[h1,hcm];omega)) (T.less (ren_f (itR Q m)) (nw_run hsp (by omega) (by omega) (by omega) (by rw[hss];exact hne) fun st hst=>⟨m+1,hst,h,by omega⟩)))
 .obtain rfl:m=M:=by omega
  have hb:(itR Q m).bs.length=((itR Q m).bs.map bA).length:=by simp
  have hg:(itR Q m).g.length=(gL (itR Q m).g).length:=(BJ _).symm
  have hs:(itR Q m).ss.length=((itR Q m).ss.map sA).length:=by simp
  have hr:(itR Q m).rs.length=((itR Q m).rs.map (AV.int .i64)).length:=by simp
  have hkm:(itR Q m).k=Q.k-(m:Int):=by rw[e]
  have hcm:(itR Q m).cc=Q.cc:=by rw[e]
  have ek:Q.L=(itR Q m).L/\Q.kk+m=(itR Q m).kk/\CH Q (itR Q m).rs=CH (itR Q m) (itR Q m).rs:=by rw[e];exact⟨rfl,rfl,rfl⟩
  rw[ek.1,ek.2.1,ek.2.2]
  by_cases h0:(m:Int)=Q.k
  .exact T.out mix (nvx_0 (itR Q m) (SD (by rw[hkm];omega)) hb hg hs hr)
  .exact T.out mix (nvy_0 (itR Q m) (SE (by rw[hkm];omega)) (SD (by simp only[iN];rw[h1,hcm];omega)) hb hg hs hr)
structure Mh(n:Ab):Prop where
 v:Aw n
 ln:3<=n.ss.length/\n.ss.length<=5
 d0:∀s,n.ss[0]?=some s->s.dep=true
 d1:∀s,n.ss[1]?=some s->s.dep=false
 d2:∀s,n.ss[2]?=some s->s.dep=false
 rb:n.rs≠[]
 rows:Rows n.nx
 rng:Rng n.bs.length n.nx
theorem GI.rows{n m:Nat}{g:List (List Int)}(h:GI n m g)(hm:m<=1000):Rows g:=fun v hv=>by
 rw[h.len] at hv
 have:=(h.row v hv).1
 omega
theorem net_ex(L:List Int)(kk:Nat)(hkk:kk<=5000)(most:Int)(hmo:1<=most/\most<=20):
  ∃n kk',(Mh n/\(n.bs.length:Int)=1+Ah L kk most)/\kk'<=kk+200/\CT Try.prog 28 [some (Af L kk)] [.ptr 0 0 0,.int .i64 most] [some (Af L kk')] (Ag n):=by
 have hb:Try.f28.body=some (zB Try.f28):=by kernel_rfl
 have c0:=A5 L kk most (by omega)
 have r0:=A4 L kk most (by omega) (by omega)
 have w0:i64.wrap (1+Ah L kk most)=1+Ah L kk most:=A6 _ (by omega) (by omega)
 obtain⟨K,hK⟩:∃K:Nat,(K:Int)=1+Ah L kk most:=⟨(1+Ah L kk most).toNat,by omega⟩
 have hK2:1<=K/\K<=24:=by omega
 have hro:=Oi (L:=L) (kk:=kk+1+2 * K) hK2
 have hbl:=Jq L (kk+1) K
 generalize hg:(Bg L K (kk+1+2 * K)).1=g at hro
 generalize hk1:(Bg L K (kk+1+2 * K)).2=k1 at hro
 have r1:=A4 L k1 3 (by omega) (by omega)
 obtain⟨M,hM⟩:∃M:Nat,(M:Int)=3+Ah L k1 3:=⟨(3+Ah L k1 3).toNat,by omega⟩
 have hp:=itS_ok (L:=L) hK2 (kk:=k1+1) (b0:=(K:Int)) M
 have hpb:=Od (L:=L) (b:=K) (p:=⟨[],k1+1,(K:Int)⟩) M
 simp only[Te,SN] at hpb
 generalize hpp:itS L K ⟨[],k1+1,(K:Int)⟩ M=p at hp hpb
 have q0:=A4 L p.kk 4 (by omega) (by omega)
 have q1:=A4 L (p.kk+1) 3 (by omega) (by omega)
 have q2:=A4 L (p.kk+2) 3 (by omega) (by omega)
 have q3:=A4 L (p.kk+3) 8 (by omega) (by omega)
 have q4:=A4 L (p.kk+4) 3 (by omega) (by omega)
 have e0:=A5 L p.kk 4 (by omega)
 have e1:=A5 L (p.kk+1) 3 (by omega)
 have e2:=A5 L (p.kk+2) 3 (by omega)
 have e3:=A5 L (p.kk+3) 8 (by omega)
 have e4:=A5 L (p.kk+4) 3 (by omega)
 generalize Ah L p.kk 4=x at q0 e0
 generalize Ah L (p.kk+1) 3=y at q1 e1
 generalize Ah L (p.kk+2) 3=z at q2 e2
 generalize Ah L (p.kk+3) 8=w at q3 e3
 generalize Ah L (p.kk+4) 3=v at q4 e4
 have hrw:Rows g:=hro.1.rows (by omega)
 have hv:=RG (L:=L) (kk:=kk+1) hK2 hro.1 hp (by omega) (x:=x) (y:=y) (z:=z) (w:=w) q0 q1 q2 q3
 have fl:=Qc (n:=⟨bsZ L (kk+1) K,g,p.ss,[],1+x,y,z,1+w⟩) hrw hv rfl
 have hcap:=cap_ok (n:=⟨bsZ L (kk+1) K,g,p.ss,[],1+x,y,z,1+w⟩) hrw hv
 have hslo:B4 ⟨bsZ L (kk+1) K,g,p.ss,[],1+x,y,z,1+w⟩=Bk ⟨bsZ L (kk+1) K,g,p.ss,[],1+x,y,z,1+w⟩ (List.replicate (Au ⟨bsZ L (kk+1) K,g,p.ss,[],1+x,y,z,1+w⟩) false) p.ss.length:=rfl
 generalize Au ⟨bsZ L (kk+1) K,g,p.ss,[],1+x,y,z,1+w⟩=cel at hslo
 generalize B4 ⟨bsZ L (kk+1) K,g,p.ss,[],1+x,y,z,1+w⟩=sl at fl hcap hslo
 generalize Bv ⟨bsZ L (kk+1) K,g,p.ss,[],1+x,y,z,1+w⟩=gi at fl hcap
 generalize DA gi sl=cc at fl hcap
 obtain⟨m,hm⟩:∃m:Nat,(m:Int)=if 1+v<=cc then 1+v else cc:=⟨(if 1+v<=cc then 1+v else cc).toNat,by split<;>omega⟩
 let Q:QF:=⟨L,p.kk+5,bsZ L (kk+1) K,g,p.ss,[],1+x,y,z,1+w,iN gi.length,sl,cc,1+v,[],0,0,s0,false,0,0⟩
 have hmb:1<=m/\m<=3:=by split at hm<;>omega
 have t2:=n2_run (Q:=Q) hv rfl (c:=cel) ⟨hcap.1,hslo ▸ hcap.2⟩ ⟨by show 1<=1+v;omega,by show 1+v<=5;omega⟩ (by show p.kk+5<=90000;omega) (M:=m) hm
 have rok:=M2 (Q:=Q) hv rfl (c:=cel) (M:=m) (by have:(m:Int)<=cc:=by {split at hm<;>omega};exact Int.le_trans this (hslo ▸ hcap.2)) m (SJ _)
 refine⟨CH Q (itR Q m).rs,p.kk+5+m,⟨⟨hv.robots rok.2 (by omega),by show 3<=p.ss.length/\p.ss.length<=5;omega,fun s h=>(hp.el 0 s h).2.1 rfl,fun s h=>(hp.el 1 s h).2.2.1 (.inl rfl),fun s h=>(hp.el 2 s h).2.2.1 (.inr rfl),fun e=>by have:=rok.1;have e':(itR Q m).rs=[]:=e;rw[e'] at this;simp at this;omega,hrw,by have:=QV L K (kk+1+2 * K);rw[hg,<-hbl] at this;exact this⟩,by rw[<-hK];show((bsZ L (kk+1) K).length:Int)=_;rw[hbl]⟩,by omega,?_⟩
 refine CT.path mix Try.func28 hb (nL rfl) (nti_0 (qA L kk [] [] [] [] most 0 em (Ah L kk most) 0 0 0 (kk+1) 0 0 0) c0 ?_)
 have t0:=n0_run (L:=L) (kk:=kk+1) hK2 (by omega) (post:=Fin Try.prog Try.f28 1 [some (Af L (p.kk+5+m))] (Ag (CH Q (itR Q m).rs))) fun B hB=>by
  subst hB
  rw[hg,hk1,<-hM]
  have hbl':1<=(bsZ L (kk+1) K).length/\(bsZ L (kk+1) K).length<=24:=by rw[hbl];exact hK2
  refine n1_run hbl' (by omega) (by omega) (by omega) ?_
  rw[hbl,hpp]
  exact n1_exit (by omega) (by omega) (by omega) e0 e1 e2 e3 e4 fl t2
 have t1:=T.less (ren_z (qA L (kk+1) [] [] [] [] (K:Int) 0 em 0 0 0 0 0 0 0 0) rfl rfl) t0
 have t1':T Try.prog 1 (.loop (zC (zB Try.f28) 0)) (Ft (qA L (kk+1) [] [] [] [] (i64.wrap (1+Ah L kk most)) 0 em 0 0 0 0 0 0 0 0)) (TK Try.prog 1 (Fin Try.prog Try.f28 1 [some (Af L (p.kk+5+m))] (Ag (CH Q (itR Q m).rs))) (zK (zB Try.f28) 0)):=by
  rw[w0,<-hK];exact t1
 exact t1'
inductive DW where
 | l0 (v0:Int)
 | l1 (v0:Int) (v1:An) (v2:Int)
def GW(n:Ab)(c:Int):DW->St
 | .l0 v0=>St.mk 37 [(1,iv c),(6,iv (-1)),(7,iv 0),(12,AV.lst (List.map sA n.ss)),(13,iv (iN (List.map sA n.ss).length)),(14,iv v0)] []
 | .l1 v0 v1 v2=>St.mk 37 [(1,iv c),(6,iv (-1)),(7,iv 0),(8,iv v0),(9,AV.ptr 0 0 0),(12,AV.lst (List.map sA n.ss)),(13,iv (iN (List.map sA n.ss).length)),(14,iv v0),(20,iv v1.k),(21,iv v2)] [some (bK [sA v1] 6)]
def IU:DW->Nat
 | .l0 _=>0
 | .l1 _ _ _=>1
def plEn(n:Ab)(c:Int):Option (DW⊕Ret):=
 some (.inl (.l0 ((0:Int))))
def GK(n:Ab)(c v0:Int):Option (DW⊕Ret):=
 br (decide (v0<iN (List.map sA n.ss).length))
 (gu (0<=v0) <|
  el (n.ss) (v0.toNat) fun(x17:An)=>
  some (.inl (.l1 v0 x17 ((0:Int)))))
 (some (.inr ([],AV.tup [iV (-1),iV 0])))
def Gk(n:Ab)(c v0:Int)(v1:An)(v2:Int):Option (DW⊕Ret):=
 br (decide (v2<v1.k))
 (br (i64.wrap (v1.b+v2)==c)
  (some (.inr ([],AV.tup [iV v0,iV (i64.wrap (v2+1))])))
  (some (.inl (.l1 v0 v1 (i64.wrap (v2+1))))))
 (some (.inl (.l0 (i64.wrap (v0+1)))))
def Li(n:Ab)(c:Int):DW->Option (DW⊕Ret)
 | .l0 v0=>GK n c v0
 | .l1 v0 v1 v2=>Gk n c v0 v1 v2
theorem plEn_ok(n:Ab)(c:Int)(o:DW⊕Ret)(h:plEn n c=some o):Arr Try.prog Try.f109 0 (GW n c) IU (zB Try.f109) [] {n:=Try.f109.ntmps,fr:=AJ 0 ([Ag n,.int .i64 c]),hp:=([])} o:=
 Scr.ok h mix (
 .lp [] [] [] [] [] [] [1,6,7,12,13,14] (aj (aj (u2 t3) (aj t3 (al (u2 (u2 (u2 t2)))))) t7)) (by kernel_rfl)
theorem plS0_ok(n:Ab)(c v0:Int)(o:DW⊕Ret)(h:GK n c v0=some o):Arr Try.prog Try.f109 0 (GW n c) IU (Az Try.f109 0) (.rnd (Az Try.f109 0)::AN Try.f109 0) (GW n c (.l0 v0)) o:=
 Scr.ok h mix (
 .rn 0 [] [] [] [] (al (al t3)) <|
 .br (fun a0=>
 .gu fun a1=>
 .el fun x17 a2=>
 .lp [31] [(17,sA x17)] [] [] [] [0] [1,6,7,8,9,12,13,14,20,21] (aj (aj a0 (aj (u2 (aj (k2 (aj a1 (AD (f:=sA) a2))) (u2 (ak (u2 (al (k2 n11))))))) (al (u2 (u2 t2))))) (k3 t9)))
 (fun a0=>
 .rt [30] [] [] [] [] [] (aj (aj a0 (al (u2 (u2 (u2 s2))))) (al t3)))) (by kernel_rfl)
theorem plS1_ok(n:Ab)(c v0:Int)(v1:An)(v2:Int)(o:DW⊕Ret)(h:Gk n c v0 v1 v2=some o):Arr Try.prog Try.f109 0 (GW n c) IU (Az Try.f109 1) (.rnd (Az Try.f109 1)::AN Try.f109 1) (GW n c (.l1 v0 v1 v2)) o:=
 Scr.ok h mix (
 .rn 0 [] [] [] [] (al (al t3)) <|
 .br (fun a0=>
 .rn 1 [45] [] [] [] (aj a0 (aj (u2 s2) (al (u2 (u2 (u2 (aj t3 (u2 (al t3))))))))) <|
 .br (fun a1=>
  .rt [59] [] [] [] [] [] (aj (aj a1 (aj (u2 (u2 (u2 (u2 s2)))) (al (u2 (u2 (u2 s2)))))) (al t3)))
 (fun a1=>
  .lp [58] [] [] [] [] [0] [1,6,7,8,9,12,13,14,20,21] (aj (aj a1 (al (u2 s2))) (k3 t9))))
 (fun a0=>
 .lp [44] [] [] [] [] [] [1,6,7,12,13,14] (aj (aj a0 (al (u2 s2))) t7))) (by kernel_rfl)
theorem pl_ct(n:Ab)(c:Int)(r:Ret)(h:Ax (Li n c) (plEn n c) r):CT Try.prog 109 ([]) ([Ag n,.int .i64 c]) r.1 r.2:=
 CT.mach (fn:=Try.f109) (c:=zB Try.f109) (S:=GW n c) (hd:=IU) Try.func109 (by kernel_rfl) (nL rfl)
  (fun s o ho=>match s,ho with
   | .l0 v0,ho=>plS0_ok n c v0 o ho
   | .l1 v0 v1 v2,ho=>plS1_ok n c v0 v1 v2 o ho
  )
  (fun o ho=>plEn_ok n c o ho) h
def inP(c:Int)(s:An):Bool:=decide (s.b<=c)&&decide (c<s.b+s.k)
def plB(n:Ab)(c:Int)(i:Nat):Bool:=match n.ss[i]? with | some s=>inP c s | none=>false
@[irreducible] def plF(n:Ab)(c:Int):Option Nat:=fnd (plB n c) 0 n.ss.length
def plI(n:Ab)(c:Int):Int:=match plF n c with | some i=>(i:Int) | none=> -1
def plJ(n:Ab)(c:Int):Int:=match plF n c with | some i=>c-(n.ss.getD i s0).b+1 | none=>0
theorem Aw.sb{n:Ab}(hv:Aw n){i:Nat}{s:An}(h:n.ss[i]?=some s):1<=s.k/\s.k<=4/\1<=s.b/\s.b<=44/\s.b=Av n i:=by
 have g:=hv.goodT i s h
 have b:=hv.bd i
 have nb:=hv.nb24
 have ns:=hv.ns
 have hl:=(SA.1 h).1
 have k:=g.hk
 have e:=g.hb
 exact⟨k.1,k.2,by omega,by omega,e⟩
theorem AE{p:Prop}[Decidable p](h:p):decide p=true:=SE h
theorem Ar{p:Prop}[Decidable p](h:¬p):decide p=false:=SD h
theorem pl_run{n:Ab}(hv:Aw n)(c:Int)(hc : -1000<=c/\c<=1000):∀(k i:Nat),i+k=n.ss.length->
  Ax (Li n c) (some (.inl (.l0 (i:Int)))) ([],.tup [.int .i64 (match fnd (plB n c) i k with | some i=>(i:Int) | none=> -1),.int .i64 (match fnd (plB n c) i k with | some i=>c-(n.ss.getD i s0).b+1 | none=>0)]):=by
 intro k
 have ns:=hv.ns
 induction k with
 | zero=>
  intro i hi
  refine .go _ _ ?_
  show Ax _ (GK n c i) _
  unfold GK
  rw[Ai (Ar (by simp[iN];omega))]
  exact .ret _
 | succ k ih=>
  intro i hi
  refine .go _ _ ?_
  show Ax _ (GK n c i) _
  unfold GK
  obtain⟨s,hs⟩:∃s,n.ss[i]?=some s:=⟨_,Sy (by omega)⟩
  have sb:=hv.sb hs
  have hg:n.ss.getD i s0=s:=by rw[Sz,hs];rfl
  have ih':=ih (i+1) (by omega)
  rw[Am (AE (by simp[iN];omega)),Aa (by omega),SH,AU hs]
  have hp:plB n c i=inP c s:=by unfold plB;rw[hs]
  simp only[fnd,hp]
  -- the inner loop
  have inner:∀(m j:Nat),(j:Int)+m=s.k->(c<s.b\/s.b+j<=c)->Ax (Li n c) (some (.inl (.l1 (i:Int) s (j:Int)))) ([],.tup [.int .i64 (match (match inP c s with | true=>some i | false=>fnd (plB n c) (i+1) k) with | some i=>(i:Int) | none=> -1),.int .i64 (match (match inP c s with | true=>some i | false=>fnd (plB n c) (i+1) k) with | some i=>c-(n.ss.getD i s0).b+1 | none=>0)]):=by
   intro m
   induction m with
   | zero=>
    intro j hj hc'
    refine .go _ _ ?_
    show Ax _ (Gk n c i s j) _
    unfold Gk
    rw[Ai (Ar (by omega)),zW i (by omega)]
    have:inP c s=false:=by unfold inP;simp;omega
    rw[this]
    exact ih'
   | succ m ihm=>
    intro j hj hc'
    refine .go _ _ ?_
    show Ax _ (Gk n c i s j) _
    unfold Gk
    rw[Am (AE (by omega)),A6 (s.b+j) (by omega) (by omega),zW j (by omega)]
    by_cases he:s.b+(j:Int)=c
    .have:inP c s=true:=by unfold inP;simp;omega
     rw[Am (by simp[he]),this]
     simp only[hg]
     have e2:((j+1:Nat):Int)=c-s.b+1:=by omega
     rw[e2]
     exact .ret _
    .rw[Ai (by simp[he])]
     exact ihm (j+1) (by omega) (by omega)
  exact inner s.k.toNat 0 (by omega) (by omega)
theorem Oz{n:Ab}(hv:Aw n)(c:Int)(hc : -1000<=c/\c<=1000):CT Try.prog 109 [] [Ag n,.int .i64 c] [] (.tup [.int .i64 (plI n c),.int .i64 (plJ n c)]):=by
 have h:=pl_run hv c hc n.ss.length 0 (by omega)
 unfold plI plJ plF
 exact pl_ct n c _ h
end Go.Proofs.Ytedjkebooffjpaa
namespace Go.AX
theorem Ax.to{σ ρ:Type}{step:σ->Option (σ⊕ρ)}{s:σ}{y:Option (σ⊕ρ)}{r:ρ}(h:step s=y)(k:Ax step y r):Ax step (some (.inl s)) r:=.go _ _ (h ▸ k)
theorem Ax.val{σ ρ:Type}{step:σ->Option (σ⊕ρ)}{x:Option (σ⊕ρ)}{r:ρ}(h:x=some (.inr r)):Ax step x r:=h ▸ .ret r
theorem Ax.res{σ ρ:Type}{step:σ->Option (σ⊕ρ)}{x:Option (σ⊕ρ)}{r r':ρ}(h:Ax step x r)(e:r=r'):Ax step x r':=e ▸ h
theorem NW{α β σ ρ:Type}{step:σ->Option (σ⊕ρ)}{L:Nat->β->σ}{f:β->α->β}{l:List α}{r:ρ}
  (b0:β) (hg:∀i x,l[i]?=some x->Ax step (some (.inl (L (i+1) (f ((l.take i).foldl f b0) x)))) r->Ax step (some (.inl (L i ((l.take i).foldl f b0)))) r)
  (he:Ax step (some (.inl (L l.length (l.foldl f b0)))) r):Ax step (some (.inl (L 0 b0))) r:=by
 have key:∀k i,i+k=l.length->Ax step (some (.inl (L i ((l.take i).foldl f b0)))) r:=by
  intro k
  induction k with
  | zero=>intro i hi;have e:i=l.length:=by omega
          subst e;rw[List.take_length];exact he
  | succ k ih=>
   intro i hi
   have hx:l[i]?=some l[i]:=Sy (by omega)
   refine hg i _ hx ?_
   have h:=ih (i+1) (by omega)
   rw[List.take_add_one,hx,Option.toList_some,List.foldl_append] at h
   exact h
 have h:=key l.length 0 (by omega)
 simpa using h
theorem rngS{α β:Type}{g:α->AV}{l:List α}{i:Nat}{x:α}(hx:l[i]?=some x){f:α->Option β}{y:Option β}:br (decide ((i:Int)<iN (List.map g l).length)) (gu (0<=(i:Int)) (el l (i:Int).toNat f)) y=f x:=by
 have hl:=(SA.1 hx).1
 rw[Am (SE (by simp[iN];omega)),Aa (by omega),SH,AU hx]
theorem Dm{α β:Type}{g:α->AV}{l:List α}{y z:Option β}:br (decide (((l.length:Nat):Int)<iN (List.map g l).length)) z y=y:=Ai (SD (by simp[iN]))
theorem Dq{σ ρ:Type}{step:σ->Option (σ⊕ρ)}(L:Nat->σ)(N:Nat){r:ρ}(h:∀i,i<N->Ax step (some (.inl (L (i+1)))) r->Ax step (some (.inl (L i))) r)(he:Ax step (some (.inl (L N))) r):
  Ax step (some (.inl (L 0))) r:=by
 have key:∀k i,i+k=N->Ax step (some (.inl (L i))) r:=by
  intro k
  induction k with
  | zero=>intro i hi;have e:i=N:=by omega
          subst e;exact he
  | succ k ih=>intro i hi;exact h i (by omega) (ih (i+1) (by omega))
 exact key N 0 (by omega)
theorem beqM{α:Type}{k i:Nat}{a b:α}:cond (Nat.beq k i) a b=if k=i then a else b:=by
 cases h:Nat.beq k i with
 | true=>rw[Sw (SF h)];rfl
 | false=>rw[Sx (fun e=>by rw[e,Nat.beq_refl] at h;cases h)];rfl
end Go.AX
namespace Go.Proofs.Ytedjkebooffjpaa
theorem Ja{σ ρ:Type}{step:σ->Option (σ⊕ρ)}(L:Nat->σ)(N:Nat)(p:Nat->Bool){rF:Nat->ρ}{r:ρ}
  (hb:∀i,i<N->p i=true->Ax step (some (.inl (L i))) (rF i))
  (hg:∀i x,i<N->p i=false->Ax step (some (.inl (L (i+1)))) x->Ax step (some (.inl (L i))) x)
  (he:fnd p 0 N=none->Ax step (some (.inl (L N))) r):Ax step (some (.inl (L 0))) (match fnd p 0 N with | some i=>rF i | none=>r):=by
 have key:∀k i,i+k=N->fnd p 0 N=fnd p i (N-i)->Ax step (some (.inl (L i))) (match fnd p i (N-i) with | some i=>rF i | none=>r):=by
  intro k
  induction k with
  | zero=>intro i hi h0
          have e:i=N:=by omega
          subst e
          rw[C5 (by omega)] at h0 ⊢
          exact he h0
  | succ k ih=>
   intro i hi h0
   have hlt:i<N:=by omega
   rw[CN hlt] at h0 ⊢
   cases hp:p i with
   | true=>exact hb i hlt hp
   | false=>rw[hp] at h0;exact hg i _ hlt hp (ih (i+1) (by omega) h0)
 exact key N 0 (by omega) rfl
theorem Bb{α:Type}{l:List α}{i:Nat}(d:α)(h:i<l.length):l[i]?=some (l.getD i d):=by
 rw[Sz,Sy h];rfl
theorem B1{α β:Type}{g:α->AV}{l:List α}{i:Nat}(d:α)(h:i<l.length){f:α->Option β}{y:Option β}:br (decide ((i:Int)<iN (List.map g l).length)) (gu (0<=(i:Int)) (el l (i:Int).toNat f)) y=f (l.getD i d):=rngS (Bb d h)
theorem elG{α β:Type}{l:List α}{i:Nat}(d:α)(h:i<l.length){f:α->Option β}:el l (i:Int).toNat f=f (l.getD i d):=by
 rw[SH,AU (Bb d h)]
theorem DP{x:Int}(h1 : -9223372036854775808<=x)(h2:x<=9223372036854775807):i64.wrap x=x:=by simp only[IntKind.wrap,IntKind.bits,IntKind.signed];simp;omega
theorem E2{l:List (Option Blk)}{x:Blk}{b:Nat}{y:Blk}(h:nth (l++[some x]) b=some y):nth l b=some y\/(b=l.length/\y=x):=by
 rw[Je] at h
 split at h
 .exact .inl h
 .split at h
  .rename_i e;cases h;exact .inr ⟨e,rfl⟩
  .cases h
theorem OP{f:FuncId}{hin hout:List (Option Blk)}{args:List AV}{k:IntKind}{e:Int}(z:Nat)(h:CT Try.prog f hin args hout (.tup [.nils,.int k e])):CT Try.prog f hin args (hout++[some (Blk.mk [] z true true none)]) (.tup [.sl hout.length 0 0,.int k e]):=by
 intro φ A w vs h1 h2 h3 h4 h5
 refine(h φ A w vs h1 h2 h3 h4 h5).mono fun e w' ⟨v,φ',he,C⟩=>⟨v,φ',he,?_⟩
 have hnone:φ' hout.length=none:=C.out _ (SJ _)
 have hmut:∀r,Mut φ' (nth (hout++[some (Blk.mk [] z true true none)])) r->Mut φ' (nth hout) r:=by
  rintro r ⟨b,blk',z',g1,g2,g3⟩
  rcases E2 g1 with g | ⟨rfl,rfl⟩
  .exact⟨b,blk',z',g,g2,g3⟩
  .rw[hnone] at g3;cases g3
 have hok:∀r,Ok A w.heap.size φ' (nth hout) w' r->Ok A w.heap.size φ' (nth (hout++[some (Blk.mk [] z true true none)])) w' r:=fun r ⟨g1,g2,g3⟩=>⟨g1,g2,fun h=>g3 (hmut r h)⟩
 have brm:∀{b:Nat} {blk:Blk},BR φ' (Ok A w.heap.size φ' (nth hout) w') w' b blk->BR φ' (Ok A w.heap.size φ' (nth (hout++[some (Blk.mk [] z true true none)])) w') w' b blk:=by
  rintro b blk (h1 | ⟨r,cs,T,h1,h2,h3,h5⟩ | h1)
  .exact .inl h1
  .refine .inr (.inl ⟨r,cs,T,h1,h2,h3,fun i e he=>⟨(h5 i e he).1,fun j c hc=>?_⟩⟩)
   obtain⟨g3,v,g4,g5⟩:=(h5 i e he).2 j c hc
   exact⟨g3,v,g4,g5.mono (fun _ _ h=>h) hok (fun _ _=>rfl) (fun _=>SJ _)⟩
  .exact .inr (.inr h1)
 have hlen:(hout++[some (Blk.mk [] z true true none)]).length=hout.length+1:=by simp
 have hs:∀b r z',(nth (hout++[some (Blk.mk [] z true true none)]) b).isSome=true->φ' b=some (r,z')->(nth hout b).isSome=true:=by
  intro b r z' g1 g2
  obtain⟨blk',g⟩:=Option.isSome_iff_exists.1 g1
  rcases E2 g with g | ⟨rfl,_⟩
  .rw[g];rfl
  .rw[hnone] at g2;cases g2
 refine⟨C.par,C.keep,fun r hr=>C.mutd r (hmut r hr),⟨fun b blk' hb'=>?_,fun b blk' hb' hf=>?_,fun b b' r z1 z2 g1 g2 g3 g4=>C.heap.inj b b' r z1 z2 (hs b r z1 g1 g3) (hs b' r z2 g2 g4) g3 g4⟩,?_,fun b hb'=>C.out b (by rw[hlen] at hb';omega),by have:=C.len;rw[hlen];omega,C.own⟩
 .rcases E2 hb' with g | ⟨rfl,rfl⟩
  .exact brm (C.heap.blk b blk' g)
  .exact .inl ⟨rfl,hnone,rfl,rfl⟩
 .rcases E2 hb' with g | ⟨rfl,rfl⟩
  .exact C.heap.flat b blk' g hf
  .intro e he;cases he
 .obtain⟨us,rfl,hl,hh⟩:=C.val.tup_inv
  match us,hl with
  | [u0,u1],_=>
   have a0:=hh 0 _ _ rfl rfl
   have a1:=hh 1 _ _ rfl rfl
   refine .tup _ _ rfl fun i c u hc hu=>?_
   match i,hc,hu with
   | 0,hc,hu=>cases hc;cases hu;rw[a0.nils_inv];exact .slnil _ 0 none
   | 1,hc,hu=>cases hc;cases hu;rw[a1.int_inv];exact .imm _ _ (.int _ _)
theorem nd_inj{l:List Int}(hn:l.Nodup){i j:Nat}(hi:i<l.length)(hj:j<l.length)(h:l.getD i 0=l.getD j 0):i=j:=by
 rw[Sz,Sy hi,Sz,Sy hj] at h
 have hp:=List.pairwise_iff_getElem.1 hn
 rcases Nat.lt_trichotomy i j with g | g | g
 .exact absurd h (hp i j hi hj g)
 .exact g
 .exact absurd h.symm (hp j i hj hi g)
theorem PW{l:List Int}{x:Int}(h:l.Nodup)(hx:x∉l):(l++[x]).Nodup:=by
 rw[List.nodup_append]
 exact⟨h,by simp,fun a ha b hb e=>hx (by rw[<-Sn.1 hb,<-e];exact ha)⟩
def ckE(n:Ab)(c:Int):Int:=if AY n=true then (if c<0\/(Au n:Int)<=c then 19 else 0) else 20
theorem L7(L:List Int)(kk:Nat)(most:Int):∃p:Ab×Nat,kk<=5000->(1<=most/\most<=20)->(Mh p.1/\(p.1.bs.length:Int)=1+Ah L kk most)/\p.2<=kk+200/\CT Try.prog 28 [some (Af L kk)] [.ptr 0 0 0,.int .i64 most] [some (Af L p.2)] (Ag p.1):=by
 by_cases h:kk<=5000/\(1<=most/\most<=20)
 .obtain⟨n,k,a,b,c⟩:=net_ex L kk h.1 most h.2
  exact⟨(n,k),fun _ _=>⟨a,b,c⟩⟩
 .exact⟨(⟨[],[],[],[],0,0,0,0⟩,0),fun a b=>absurd ⟨a,b⟩ h⟩
@[irreducible] def Aj(L:List Int)(kk:Nat)(most:Int):Ab:=(Classical.choose (L7 L kk most)).1
@[irreducible] def Ay(L:List Int)(kk:Nat)(most:Int):Nat:=(Classical.choose (L7 L kk most)).2
theorem Oa{L:List Int}{kk:Nat}{most:Int}(h:kk<=5000)(hm:1<=most/\most<=20):Mh (Aj L kk most)/\Ay L kk most<=kk+200/\CT Try.prog 28 [some (Af L kk)] [.ptr 0 0 0,.int .i64 most] [some (Af L (Ay L kk most))] (Ag (Aj L kk most)):=
 by unfold Aj Ay;have hs:=Tb (L7 L kk most) h hm;exact⟨hs.1.1,hs.2⟩
theorem net_ct(L:List Int)(kk:Nat)(most:Int)(h:kk<=5000)(hm:1<=most/\most<=20):CT Try.prog 28 [some (Af L kk)] [.ptr 0 0 0,.int .i64 most] [some (Af L (Ay L kk most))] (Ag (Aj L kk most)):=(Oa h hm).2.2
theorem Fp.add{n:Ab}{rs:List Int}(h:Fp n rs){x:Int}(hd:AQ n n.ss.length x)(hx:x∉rs):Fp n (rs++[x]):=by
 intro i c hc
 rw[S7] at hc
 split at hc
 .rename_i hi
  obtain⟨h1,h2⟩:=h i c hc
  exact⟨h1,by rw[List.take_append_of_le_length (by omega)];exact h2⟩
 .rename_i hi
  have e:i=rs.length:=by
   have:=(SA.1 hc).1;simp at this;omega
  subst e
  simp at hc;subst hc
  exact⟨hd,by rw[List.take_append_of_le_length (by omega),List.take_length];exact hx⟩
theorem Aw.ends{n:Ab}(hv:Aw n){i:Nat}{s:An}(hs:n.ss[i]?=some s):0<=s.i/\s.i<Au n/\0<=s.o/\s.o<Au n/\s.b+s.k<=Au n:=by
 have g:=hv.goodT i s hs
 have hc:=hv.cel
 have hi:=g.hi
 have ho:=g.ho
 have hil:=(SA.1 hs).1
 have hm:=Iv hv (i:=i+1) (j:=n.ss.length) (by omega) (SJ _)
 rw[C9 hs,<-g.hb] at hm
 exact⟨by omega,by omega,by omega,by omega,by omega⟩
def Dx(s:An):Int:=s.b+s.k-1
def DF(n:Ab)(c:Int):List Int:=match plF n c with
 | some i=>if c=Dx (n.ss.getD i s0) then [(n.ss.getD i s0).o] else [c+1]
 | none=>n.nx.getD c.toNat []++(n.ss.filter fun s=>s.i==c).map fun s=>s.b
def nxO(n:Ab)(c:Int):List Int:=if ckE n c=0 then DF n c else []
def Dk(n:Ab)(x y:Int):Bool:=AB (nxO n x) y
theorem Kk{n:Ab}{c:Int}(h:ckE n c=0):Aw n/\0<=c/\c<(Au n:Int):=by
 unfold ckE at h
 split at h
 .rename_i hv
  split at h
  .cases h
  .exact⟨Cz.1 hv,by omega,by omega⟩
 .cases h
theorem K9{n:Ab}{c:Int}(hv:Aw n)(h0:0<=c)(h1:c<(Au n:Int)):ckE n c=0:=by
 unfold ckE;rw[Sw (Cz.2 hv),Sx (by omega)]
theorem EN{n:Ab}{c:Int}{i:Nat}(h:plF n c=some i):∃s,n.ss[i]?=some s/\n.ss.getD i s0=s/\s.b<=c/\c<s.b+s.k/\i<n.ss.length:=by
 unfold plF at h
 obtain⟨h1,_,h2⟩:=Ea h
 have hl:i<n.ss.length:=by omega
 refine⟨n.ss[i],Sy hl,by rw[Sz,Sy hl];rfl,?_⟩
 unfold plB at h1
 rw[Sy hl] at h1
 unfold inP at h1
 simp only[SG,decide_eq_true_eq] at h1
 exact⟨h1.1,h1.2,hl⟩
theorem OO{n:Ab}{c:Int}(h:plF n c=none){i:Nat}{s:An}(hs:n.ss[i]?=some s):¬(s.b<=c/\c<s.b+s.k):=by
 unfold plF at h
 have hl:=(SA.1 hs).1
 have:=CB h i (SK _) (by omega)
 unfold plB at this
 rw[hs] at this
 unfold inP at this
 simp only[Bool.and_eq_false_iff,decide_eq_false_iff_not] at this
 omega
theorem P5{n:Ab}(hv:Aw n){c:Int}(h0:(n.bs.length:Int)<=c):∀i,i<=n.ss.length->c<Av n i->∃(j:Nat) (s:An),n.ss[j]?=some s/\s.b<=c/\c<s.b+s.k:=by
 intro i
 induction i with
 | zero=>intro _ h;unfold Av at h;simp at h;omega
 | succ i ih=>
  intro hi h
  by_cases hc:c<Av n i
  .exact ih (by omega) hc
  .have hs:n.ss[i]?=some n.ss[i]:=Sy (by omega)
   have:=C9 hs
   have:=(hv.sb hs).2.2.2.2
   exact⟨i,_,hs,by omega,by omega⟩
theorem FM{n:Ab}(hv:Aw n){c:Int}(h0:0<=c)(h1:c<(Au n:Int))(h:plF n c=none):c<(n.bs.length:Int):=by
 have hce:=hv.cel
 refine Int.not_le.1 fun hb=>?_
 obtain⟨j,s,hs,g1,g2⟩:=P5 hv hb n.ss.length (SJ _) (by omega)
 exact OO h hs ⟨g1,g2⟩
theorem Aw.lanes{n:Ab}(hrw:Rows n.nx)(hv:Aw n){v:Nat}(h:v<n.bs.length):(∀w∈n.nx.getD v [],0<=w/\w<(n.bs.length:Int))/\(n.nx.getD v []).length<=24:=by
 obtain⟨hg,ha⟩:=Hw hrw hv.chk
 have hl:=hv.nx
 have:=hg.len
 have h2:=asc_len hg ha (show v<n.nx.length by omega)
 exact⟨fun w hw=>by have:=(hg.row v (by omega)).2 w hw;omega,by omega⟩
theorem nxtL_len{n:Ab}(hrw:Rows n.nx)(hv:Aw n){c:Int}(h0:0<=c)(h1:c<(Au n:Int)):(DF n c).length<=100:=by
 unfold DF
 cases hp:plF n c with
 | some i=>simp only;split<;>simp
 | none=>
  have hb:=FM hv h0 h1 hp
  have h2:=(hv.lanes hrw (show c.toNat<n.bs.length by omega)).2
  have h3:=List.length_filter_le (fun s:An=>s.i==c) n.ss
  have ns:=hv.ns
  simp only[SR,SB];omega
theorem nxO_len{n:Ab}(hrw:Rows n.nx)(c:Int):(nxO n c).length<=100:=by
 unfold nxO
 split
 .rename_i h
  obtain⟨hv,h0,h1⟩:=Kk h
  exact nxtL_len hrw hv h0 h1
 .simp
def ckSt(n:Ab)(c:Int):Empty->St
 | x=>x.elim
def ckHd:Empty->Nat
 | x=>x.elim
def ckEn(n:Ab)(c:Int):Option (Empty⊕Ret):=
 gu (Rows n.nx) <|
 br (!AY n)
 (some (.inr ([],iV 20)))
 (br (decide (c<0))
  (some (.inr ([],iV 19)))
  (gu (Aw n) <|
   br (decide (iN (Au n)<=c))
   (some (.inr ([],iV 19)))
   (some (.inr ([],iV 0)))))
def ckStep(n:Ab)(c:Int):Empty->Option (Empty⊕Ret)
 | x=>x.elim
theorem ckEn_ok(n:Ab)(c:Int)(o:Empty⊕Ret)(h:ckEn n c=some o):Arr Try.prog Try.f108 0 (ckSt n c) ckHd (zB Try.f108) [] {n:=Try.f108.ntmps,fr:=AJ 0 ([Ag n,.int .i64 c]),hp:=([])} o:=
 Scr.ok h mix (
 .rn 0 [] [] [] [] (al (u2 t2)) <|
 .gu fun a0=>
 have c0:=Ms a0;
 .rn 0 [] [] [(7,hK c0 [] [])] [] (al (u2 (aj (ak (aj t9 (al (c0)))) (u2 s2)))) <|
 .br (fun a1=>
 .rt [11] [] [] [] [] [] (aj (aj a1 s2) t2))
 (fun a1=>
 .br (fun a2=>
  .rt [10,25] [] [] [] [] [] (aj (aj a1 (aj (u2 (u2 (u2 (aj a2 (aj a2 (aj a2 (aj a2 (ag a2 s2)))))))) (ak s2))) t2))
 (fun a2=>
  .gu fun a3=>
  have c1:=N1 a3;
  .rn 0 [10,24] [] [(15,hK c1 [] [])] [] (aj a1 (al (u2 (u2 (u2 (ag a2 (ag a2 (aj (aj a2 (ak (aj t9 (al (c1))))) (aj (aj a2 t3) (ag a2 s2)))))))))) <|
  .br (fun a4=>
  .rt [24,19] [] [] [] [] [] (aj (aj a4 s2) t2))
  (fun a4=>
  .rt [24,18] [] [] [] [] [] (aj (aj a4 s2) t2))))) (by kernel_rfl)
theorem ck_ct(n:Ab)(c:Int)(r:Ret)(h:Ax (ckStep n c) (ckEn n c) r):CT Try.prog 108 ([]) ([Ag n,.int .i64 c]) r.1 r.2:=
 CT.mach (fn:=Try.f108) (c:=zB Try.f108) (S:=ckSt n c) (hd:=ckHd) Try.func108 (by kernel_rfl) (nL rfl)
  (fun s o ho=>match s,ho with
   | x,_=>x.elim)
  (fun o ho=>ckEn_ok n c o ho) h
theorem ck_c(n:Ab)(c:Int)(hrw:Rows n.nx):CT Try.prog 108 [] [Ag n,.int .i64 c] [] (.int .i64 (ckE n c)):=by
 refine ck_ct n c ([],_) (.val ?_)
 unfold ckEn ckE
 rw[Aa hrw]
 by_cases hv:Aw n
 .rw[Cz.2 hv,Sw rfl,Ai (by rfl)]
  by_cases h0:c<0
  .rw[Am (AE h0),Sw (.inl h0)]
  .rw[Ai (Ar h0),Aa hv]
   by_cases h1:(Au n:Int)<=c
   .rw[Am (AE h1),Sw (.inr h1)]
   .rw[Ai (Ar h1),Sx (by omega)]
 .rw[Cu hv,Sx (by simp),Am (by rfl)]
inductive EC where
 | l0 (v0:List Int) (v1:Int)
def ER(n:Ab)(c:Int):EC->St
 | .l0 v0 v1=>St.mk 68 [(1,iv c),(9,AV.sl 0 0 v0.length),(51,AV.lst (List.map sA n.ss)),(52,iv (iN (List.map sA n.ss).length)),(53,iv v1)] [some (bK (List.map (iv) v0) 1)]
def Lb:EC->Nat
 | .l0 _ _=>0
def HF(n:Ab)(c:Int):Option (EC⊕Ret):=
 gu (Rows n.nx) <|
 br (ckE n c != 0)
 (some (.inr ([],AV.tup [AV.nils,iV (ckE n c)])))
 (gu (Aw n) <|
  gu (-1000<=c/\c<=1000) <|
  br (decide (0<=plI n c))
  (gu (0<=plI n c) <|
   el (n.ss) ((plI n c).toNat) fun(x30:An)=>
   br (decide (plJ n c<x30.k))
   (some (.inr ([],AV.tup [AV.lst [iV (i64.wrap (c+1))],iV 0])))
   (el (n.ss) ((plI n c).toNat) fun(x40:An)=>
    some (.inr ([],AV.tup [AV.lst [iV x40.o],iV 0]))))
  (gu (0<=c) <|
   el (n.nx) (c.toNat) fun(x47:List Int)=>
   gu (∀(e:AV),e∈List.map iV x47->e.cells.length=1) <|
   gu ((List.map iV x47).length<=9223372036854775807) <|
   gu ((List.map iV x47).length * 8<=140737488355328) <|
   some (.inl (.l0 x47 ((0:Int))))))
def G1(n:Ab)(c:Int)(v0:List Int)(v1:Int):Option (EC⊕Ret):=
 br (decide (v1<iN (List.map sA n.ss).length))
 (gu (0<=v1) <|
  el (n.ss) (v1.toNat) fun(x55:An)=>
  br (x55.i==c)
  (gu ((List.map iV v0).length+[iV x55.b].length<=9223372036854775807) <|
   gu (((List.map iV v0).length+[iV x55.b].length) * 8<=140737488355328) <|
   some (.inl (.l0 (v0++[x55.b]) (i64.wrap (v1+1)))))
  (some (.inl (.l0 v0 (i64.wrap (v1+1))))))
 (some (.inr ([],AV.tup [AV.lst (List.map iV v0),iV 0])))
def cnxStep(n:Ab)(c:Int):EC->Option (EC⊕Ret)
 | .l0 v0 v1=>G1 n c v0 v1
theorem cnxEn_ok(n:Ab)(c:Int)(o:EC⊕Ret)(h:HF n c=some o):Arr Try.prog Try.f87 0 (ER n c) Lb (zB Try.f87) [] {n:=Try.f87.ntmps,fr:=AJ 0 ([Ag n,.int .i64 c]),hp:=([])} o:=
 Scr.ok h mix (
 .rn 0 [] [] [] [] (al (u2 t3)) <|
 .gu fun a0=>
 have c0:=ck_c n c a0;
 .rn 1 [] [] [(14,hK c0 [] [])] [] (aj (u2 (u2 (aj (k2 (aj t9 (ak (al (c0))))) s2))) (al (u2 s2))) <|
 .br (fun a1=>
 .rt [33] [] [] [] [] [] (aj (aj a1 (al (u2 (ak s2)))) (al t3)))
 (fun a1=>
 .gu fun a2=>
 .gu fun a3=>
 have c1:=Oz a2 c a3;
 .rn 1 [32] [] [(21,hK c1 [] [])] [] (aj a1 (aj (u2 (u2 (aj (k2 (aj t9 (ak (al (c1))))) (u2 (u2 (u2 (u2 s2))))))) (al (u2 s2)))) <|
 .br (fun a4=>
  .gu fun a5=>
  .el fun x30 a6=>
  .rn 0 [51] [(30,sA x30)] [] [] (aj a4 (al (u2 (u2 (u2 (u2 (aj (k2 (aj a5 (AD (f:=sA) a6))) (u2 (u2 (al t3)))))))))) <|
  .br (fun a7=>
  .rt [67] [] [] [] [] [1] (aj (aj a7 (al (u2 (u2 (u2 (u2 t2)))))) (al (aj (show 1=[iv (i64.wrap (c+1))].length by simp) t2))))
  (fun a7=>
  .el fun x40 a8=>
  .rt [66] [(40,sA x40)] [] [] [] [1] (aj (aj a7 (al (u2 (u2 (u2 (aj (k2 (aj a5 (AD (f:=sA) a8))) (u2 (u2 (u2 (u2 t2)))))))))) (al (aj (show 1=[iv x40.o].length by simp) t2)))))
 (fun a4=>
  .gu fun a5=>
  .el fun x47 a6=>
  .gu fun a7=>
  .gu fun a8=>
  .gu fun a9=>
  .lq [50] [(47,lI x47)] [] [] [] [1] [1,9,51,52,53] (up [(9,AV.sl 0 0 (List.map (iv) x47).length)] [] (ER n c (.l0 x47 ((0:Int))))) (aj (aj a4 (aj (u2 (u2 (u2 (aj (k2 (aj a5 (AD (f:=lI) a6))) (u2 (aj (ak (aj a7 (aj a8 a9))) s2)))))) (al (u2 (u2 (u2 t2)))))) t7) (by simp[up,upF,upV,upH,upB,ER,gL,boL,lI,sA,bA])))) (by kernel_rfl)
theorem cnxS0_ok(n:Ab)(c:Int)(v0:List Int)(v1:Int)(o:EC⊕Ret)(h:G1 n c v0 v1=some o):Arr Try.prog Try.f87 0 (ER n c) Lb (Az Try.f87 0) (.rnd (Az Try.f87 0)::AN Try.f87 0) (ER n c (.l0 v0 v1)) o:=
 Scr.ok h mix (
 .rn 0 [] [] [] [] (al (al t3)) <|
 .br (fun a0=>
 .gu fun a1=>
 .el fun x55 a2=>
 .rn 1 [109] [(55,sA x55)] [] [] (aj a0 (aj (aj (k2 (aj a1 (AD (f:=sA) a2))) (u2 (ak (al (k2 n11))))) (al (u2 (u2 (u2 (al t3))))))) <|
 .br (fun a3=>
  .gu fun a4=>
  .gu fun a5=>
  .lq [121] [] [] [] [] [3] [1,9,51,52,53] (up [(9,AV.sl 0 0 ((List.map (iv) v0).length+[iv x55.b].length))] [(0,List.map (iv) v0++[iv x55.b])] (ER n c (.l0 (v0++[x55.b]) (i64.wrap (v1+1))))) (aj (aj a3 (aj (u2 (u2 (u2 (u2 (aj (k2 (aj (show(List.map (iv) v0).length=v0.length by simp) (aj (aj (show nat_lit 1=nat_lit 1 from rfl) (show 1<=[iv x55.b].length by simp)) (aj a4 a5)))) s2))))) (al (u2 s2)))) t7) (by simp[up,upF,upV,upH,upB,ER,gL,boL,lI,sA,bA]))
 (fun a3=>
  .lp [120] [] [] [] [] [0] [1,9,51,52,53] (aj (aj a3 (al (u2 s2))) t7)))
 (fun a0=>
 .rt [108] [] [] [] [] [0] (aj (aj a0 (al (u2 (u2 t2)))) (al (aj (show v0.length=(List.map (iv) v0).length by simp) t2))))) (by kernel_rfl)
theorem NT(n:Ab)(c:Int)(r:Ret)(h:Ax (cnxStep n c) (HF n c) r):CT Try.prog 87 ([]) ([Ag n,.int .i64 c]) r.1 r.2:=
 CT.mach (fn:=Try.f87) (c:=zB Try.f87) (S:=ER n c) (hd:=Lb) Try.func87 (by kernel_rfl) (nL rfl)
  (fun s o ho=>match s,ho with
   | .l0 v0 v1,ho=>cnxS0_ok n c v0 v1 o ho
  )
  (fun o ho=>cnxEn_ok n c o ho) h
def nxS(n:Ab)(c:Int)(i:Nat):List Int:=n.nx.getD c.toNat []++((n.ss.take i).filter fun s=>s.i==c).map fun s=>s.b
theorem nxS_step{n:Ab}{c:Int}{i:Nat}(hi:i<n.ss.length):nxS n c (i+1)=if ((n.ss.getD i s0).i==c)=true then nxS n c i++[(n.ss.getD i s0).b] else nxS n c i:=by
 unfold nxS
 rw[List.take_add_one,Bb s0 hi,Option.toList_some,List.filter_append,SL]
 by_cases h:((n.ss.getD i s0).i==c)=true
 .rw[Sw h,List.filter_cons,Sw h,<-List.append_assoc];rfl
 .rw[Sx h,List.filter_cons,Sx h];simp
theorem nxS_len{n:Ab}(hrw:Rows n.nx)(hv:Aw n){c:Int}(h0:0<=c)(h1:c<(n.bs.length:Int))(i:Nat):(nxS n c i).length<=100:=by
 have h2:=(hv.lanes hrw (show c.toNat<n.bs.length by omega)).2
 have h3:=List.length_filter_le (fun s:An=>s.i==c) (n.ss.take i)
 have h4:(n.ss.take i).length<=n.ss.length:=by rw[S0];omega
 have ns:=hv.ns
 unfold nxS
 rw[SR,SB];omega
theorem nxS_all{n:Ab}{c:Int}(h:plF n c=none):nxS n c n.ss.length=DF n c:=by
 unfold nxS DF;rw[h,List.take_length]
theorem LF{n:Ab}{c:Int}{i:Nat}(h:plF n c=some i):plI n c=(i:Int)/\plJ n c=c-(n.ss.getD i s0).b+1:=by
 unfold plI plJ;rw[h];exact⟨rfl,rfl⟩
theorem K8{n:Ab}{c:Int}(h:plF n c=none):plI n c = -1:=by unfold plI;rw[h]
theorem cnext_c(n:Ab)(c:Int)(hrw:Rows n.nx):CT Try.prog 87 [] [Ag n,.int .i64 c] [] (.tup [lI (nxO n c),.int .i64 (ckE n c)]):=by
 unfold nxO
 by_cases h:ckE n c=0
 .obtain⟨hv,h0,h1⟩:=Kk h
  have hce:=hv.cel
  rw[Sw h,h]
  refine NT n c ([],_) ?_
  unfold HF
  rw[Aa hrw,Ai (by rw[h];rfl),Aa hv,Aa (by omega)]
  cases hp:plF n c with
  | some i=>
   obtain⟨s,hs,hg,g1,g2,hl⟩:=EN hp
   obtain⟨e1,e2⟩:=LF hp
   unfold DF
   rw[hp,e1,e2]
   simp only[hg]
   rw[Am (AE (by omega)),Aa (by omega),SH,AU hs]
   unfold Dx
   by_cases hh:c=s.b+s.k-1
   .rw[Ai (Ar (by omega)),AU hs,Sw hh];exact .ret _
   .rw[Am (AE (by omega)),Sx hh,DP (by omega) (by omega)];exact .ret _
  | none=>
   have hb:=FM hv h0 h1 hp
   have hnl:=hv.nx
   have hrl:=(hv.lanes hrw (show c.toNat<n.bs.length by omega)).2
   rw[K8 hp,Ai (by rfl),Aa h0,AU (Bb [] (show c.toNat<n.nx.length by omega)),Aa (fun e he=>by obtain⟨x,_,rfl⟩:=S3.1 he;rfl),Aa (by simp only[SB];omega),Aa (by simp only[SB];omega),<-nxS_all hp]
   have e0:n.nx.getD c.toNat []=nxS n c 0:=by unfold nxS;simp
   rw[e0]
   refine Dq (fun i=>EC.l0 (nxS n c i) (i:Int)) n.ss.length (fun i hi h=>?_) ?_
   .refine .to (show G1 n c (nxS n c i) i=_ from ?_) h
    have hsl:=nxS_len hrw hv h0 hb i
    have ns:=hv.ns
    unfold G1
    rw[B1 s0 hi,nxS_step hi,zW i (by omega)]
    by_cases hc:((n.ss.getD i s0).i==c)=true
    .rw[Am hc,Sw hc,Aa (by simp only[SB,Tc];omega),Aa (by simp only[SB,Tc];omega)]
    .rw[Ai (Tk.2 hc),Sx hc]
   .refine .to (show G1 n c _ n.ss.length=_ from ?_) (.ret _)
    unfold G1
    rw[Dm];rfl
 .rw[Sx h]
  exact(NT n c ([],_) (.val (show HF n c=_ by unfold HF;rw[Aa hrw,Am (Tl.2 h)]))).to rfl rfl
inductive EL where
 | l0 (v0:Int)
def Kb(n:Ab)(q w:Int):EL->St
 | .l0 v0=>St.mk 27 [(2,iv w),(17,AV.lst (List.map (iv) (nxO n q))),(18,iv (iN (List.map (iv) (nxO n q)).length)),(19,iv v0)] []
def KV:EL->Nat
 | .l0 _=>0
def LU(n:Ab)(q w:Int):Option (EL⊕Ret):=
 gu (Rows n.nx) <|
 some (.inl (.l0 ((0:Int))))
def FA(n:Ab)(q w:Int)(v0:Int):Option (EL⊕Ret):=
 br (decide (v0<iN (List.map iV (nxO n q)).length))
 (gu (0<=v0) <|
  el (nxO n q) (v0.toNat) fun(x21:Int)=>
  br (x21==w)
  (some (.inr ([],bV true)))
  (some (.inl (.l0 (i64.wrap (v0+1))))))
 (some (.inr ([],bV false)))
def folStep(n:Ab)(q w:Int):EL->Option (EL⊕Ret)
 | .l0 v0=>FA n q w v0
theorem folEn_ok(n:Ab)(q w:Int)(o:EL⊕Ret)(h:LU n q w=some o):Arr Try.prog Try.f38 0 (Kb n q w) KV (zB Try.f38) [] {n:=Try.f38.ntmps,fr:=AJ 0 ([Ag n,.int .i64 q,.int .i64 w]),hp:=([])} o:=
 Scr.ok h mix (
 .rn 0 [] [] [] [] (al (u2 t2)) <|
 .gu fun a0=>
 have c0:=cnext_c n q a0;
 .lp [] [] [(14,hK c0 [] [])] [] [] [] [2,17,18,19] (aj (aj (u2 (u2 (aj (k2 (aj t9 (ak (al (c0))))) (u2 (u2 (u2 (u2 s2))))))) (al (u2 (u2 t2)))) t5)) (by kernel_rfl)
theorem folS0_ok(n:Ab)(q w:Int)(v0:Int)(o:EL⊕Ret)(h:FA n q w v0=some o):Arr Try.prog Try.f38 0 (Kb n q w) KV (Az Try.f38 0) (.rnd (Az Try.f38 0)::AN Try.f38 0) (Kb n q w (.l0 v0)) o:=
 Scr.ok h mix (
 .rn 0 [] [] [] [] (al (al t3)) <|
 .br (fun a0=>
 .gu fun a1=>
 .el fun x21 a2=>
 .rn 1 [41] [(21,iv x21)] [] [] (aj a0 (aj (aj (k2 (aj a1 (AD (f:=iv) a2))) (u2 s2)) (al (u2 (u2 (al t3)))))) <|
 .br (fun a3=>
  .rt [51] [] [] [] [] [] (aj (aj a3 s2) t2))
 (fun a3=>
  .lp [50] [] [] [] [] [] [2,17,18,19] (aj (aj a3 (al (u2 s2))) t5)))
 (fun a0=>
 .rt [40] [] [] [] [] [] (aj (aj a0 s2) t2))) (by kernel_rfl)
theorem fol_ct(n:Ab)(q w:Int)(r:Ret)(h:Ax (folStep n q w) (LU n q w) r):CT Try.prog 38 ([]) ([Ag n,.int .i64 q,.int .i64 w]) r.1 r.2:=
 CT.mach (fn:=Try.f38) (c:=zB Try.f38) (S:=Kb n q w) (hd:=KV) Try.func38 (by kernel_rfl) (nL rfl)
  (fun s o ho=>match s,ho with
   | .l0 v0,ho=>folS0_ok n q w v0 o ho
  )
  (fun o ho=>folEn_ok n q w o ho) h
theorem Px(n:Ab)(q w:Int)(hrw:Rows n.nx):CT Try.prog 38 [] [Ag n,.int .i64 q,.int .i64 w] [] (.bool (Dk n q w)):=by
 refine fol_ct n q w ([],_) ?_
 have hl:=nxO_len hrw q
 unfold LU
 rw[Aa hrw]
 refine(Ja (fun i=>EL.l0 (i:Int)) (nxO n q).length (fun i=>(nxO n q).getD i 0==w) (rF:=fun _=>([],.bool true)) (r:=([],.bool false)) (fun i hi hp=>?_) (fun i r hi hp hr=>?_) (fun _=>?_)).res ?_
 .refine .to (show FA n q w i=_ from ?_) (.ret _)
  unfold FA
  rw[B1 0 hi,Am hp]
 .refine .to (show FA n q w i=_ from ?_) hr
  unfold FA
  rw[B1 0 hi,Ai hp,zW i (by omega)]
 .refine .to (show FA n q w (nxO n q).length=_ from ?_) (.ret _)
  unfold FA;rw[Dm]
 .unfold Dk AB
  cases fnd (fun i=>(nxO n q).getD i 0==w) 0 (nxO n q).length<;>rfl
end Go.Proofs.Ytedjkebooffjpaa
namespace Go.AX
variable {P:Program}
inductive B8 (P:Program) (m:Nat):List Oper->St->St->Prop
 | nil (st:St):B8 P m [] st st
 | cons {o:Oper} {r:List Oper} {st st':St} {R:OpR} (hg:o.guard=none) (hop:Al P o st.ev (nth st.hp) st.hp.length R) (hf:R.fits (nth st.hp)) (hd:∀b,b∈R.dead->m<=b)
   (hdst:∀d,o.dst=some d->d<st.n) (h:B8 P m r (st.app o.dst R) st'):B8 P m (o::r) st st'
theorem R5{m:Nat}{ops:Array Oper}{Q:Exit->Act->World->Prop}{A0:Nat->Prop}{n0:Nat}:∀{l:List Oper} {st st':St},B8 P m l st st'->
  ∀{φ:Phi} {a:Act} {w:World},m<=st.hp.length->Rel A0 n0 m φ st a w->
   (∀φ' a' w',m<=st'.hp.length->Rel A0 n0 m φ' st' a' w'->Tr m φ st.h w φ' st'.h w'->Q .normal a' w')->wpList P ops Q l a w:=by
 intro l st st' h
 induction h with
 | nil st=>intro φ a w hm hr k;exact k φ a w hm hr (.refl _ _ _ _)
 | @cons o r st st' R hg hop hf hd hdst h ih=>
  intro φ a w hm hr k
  have hm':m<=(st.app o.dst R).hp.length:=by simp[St.app,EI,EW];omega
  unfold wpList
  rw[Sw (Ju (φ:=φ) (A:=Ok A0 n0 φ st.h w) (w:=w) fun k want hk=>by rw[hg] at hk;cases hk)]
  left
  refine hop φ (Ok A0 n0 φ st.h w) w a _ _ (fun r hA=>⟨hA.2.1,hA.2.2⟩) hr.ev hr.heap hr.out fun v' w' φ' he=>?_
  obtain⟨s1,s2⟩:=hr.step hm hd hdst hf he
  exact ih hm' s1 fun φ2 a2 w2 g1 g2 g3=>k φ2 a2 w2 g1 g2 (s2.trans g3)
set_option linter.unusedVariables false in
theorem T.ops{m id:Nat}{ops:Array Oper}{st st':St}{post:Exit->St->Prop}(h:B8 P m ops.toList st st')(hpost:post .normal st'):T P m (.region id ops false) st post:=
 fun A0 n0 φ a w hm hr=>wp_region_list (R5 h hm hr fun φ' a' w' g1 g2 g3=>⟨φ',_,hpost,g2,g1,g3⟩)
theorem H7:∀(l:List (Option Blk)) (i:Nat),Cc [] [] i l=l
 | [],_=>rfl
 | x::r,i=>by simp only[Cc,Ce,Bh];rw[H7 r]
theorem LH(b:Nat):∀(l:List (Option Blk)) (i:Nat),i<=b->Cc [b] [] i l=l.set (b-i) none
 | [],_,_=>by simp[Cc]
 | x::r,i,h=>by
  simp only[Cc,Ce,Bh]
  by_cases hb:b=i
  .subst hb
   rw[Nat.beq_refl,Sg]
   have:∀(l:List (Option Blk)) (j:Nat),b<j->Cc [b] [] j l=l:=by
    intro l
    induction l with
    | nil=>intro j _;rfl
    | cons y r ih=>
     intro j hj
     have hne:Nat.beq b j=false:=by cases hq:Nat.beq b j with | false=>rfl | true=>exact absurd (SF hq) (by omega)
     simp only[Cc,Ce,Bh,hne]
     rw[ih (j+1) (by omega)]
   rw[this r (b+1) (by omega)];rfl
  .have hne:Nat.beq b i=false:=by cases hq:Nat.beq b i with | false=>rfl | true=>exact absurd (SF hq) hb
   rw[hne,LH b r (i+1) (by omega),show b-i=(b-(i+1))+1 by omega];rfl
theorem N3(b:Nat)(blk:Blk):∀(l:List (Option Blk)) (i:Nat),i<=b->Cc [] [(b,blk)] i l=l.set (b-i) (some blk)
 | [],_,_=>by simp[Cc]
 | x::r,i,h=>by
  simp only[Cc,Ce,Bh]
  by_cases hb:b=i
  .subst hb
   rw[Nat.beq_refl,Sg]
   have:∀(l:List (Option Blk)) (j:Nat),b<j->Cc [] [(b,blk)] j l=l:=by
    intro l
    induction l with
    | nil=>intro j _;rfl
    | cons y r ih=>
     intro j hj
     have hne:Nat.beq b j=false:=by cases hq:Nat.beq b j with | false=>rfl | true=>exact absurd (SF hq) (by omega)
     simp only[Cc,Ce,Bh,hne]
     rw[ih (j+1) (by omega)]
   rw[this r (b+1) (by omega)];rfl
  .have hne:Nat.beq b i=false:=by cases hq:Nat.beq b i with | false=>rfl | true=>exact absurd (SF hq) hb
   rw[hne,N3 b blk r (i+1) (by omega),show b-i=(b-(i+1))+1 by omega];rfl
variable {m:Nat} {o:Oper} {r:List Oper} {n:Nat} {fr:List (Nat×AV)} {hp:List (Option Blk)} {st':St}
theorem B8.val{d:Nat}{v:AV}(hg:o.guard=none)(ho:o.dst=some d)(hd:d<n)(hop:Al P o (St.ev ⟨n,fr,hp⟩) (nth hp) hp.length {v})(h:B8 P m r ⟨n,(d,v)::fr,hp⟩ st'):B8 P m (o::r) ⟨n,fr,hp⟩ st':=by
 refine .cons hg hop (OpR.fits_value _ _) (fun b hb=>by simp at hb) (fun d' h'=>by rw[ho] at h';cases h';exact hd) ?_
 have e:St.app ⟨n,fr,hp⟩ o.dst {v}=⟨n,(d,v)::fr,hp⟩:=by
  unfold St.app;rw[ho];simp only[put,H7,BG,List.append_nil]
 rw[e];exact h
theorem B8.new{d:Nat}{v:AV}{blk:Blk}(hg:o.guard=none)(ho:o.dst=some d)(hd:d<n)(hop:Al P o (St.ev ⟨n,fr,hp⟩) (nth hp) hp.length {v,new:=[blk]})(h:B8 P m r ⟨n,(d,v)::fr,hp++[some blk]⟩ st'):B8 P m (o::r) ⟨n,fr,hp⟩ st':=by
 refine .cons hg hop ⟨fun b blk hm=>by simp at hm,fun b hm=>by simp at hm⟩ (fun b hb=>by simp at hb) (fun d' h'=>by rw[ho] at h';cases h';exact hd) ?_
 have e:St.app ⟨n,fr,hp⟩ o.dst {v,new:=[blk]}=⟨n,(d,v)::fr,hp++[some blk]⟩:=by
  unfold St.app;rw[ho];simp only[put,H7,BG]
 rw[e];exact h
theorem B8.move{d b:Nat}{v:AV}{blk blk0:Blk}(hg:o.guard=none)(ho:o.dst=some d)(hd:d<n)(hb:nth hp b=some blk0)(hw:blk0.wr=true)(hm:m<=b)(hop:Al P o (St.ev ⟨n,fr,hp⟩) (nth hp) hp.length {v,dead:=[b],new:=[blk]})
  (h:B8 P m r ⟨n,(d,v)::fr,hp.set b none++[some blk]⟩ st'):B8 P m (o::r) ⟨n,fr,hp⟩ st':=by
 refine .cons hg hop ⟨fun b blk hm=>by simp at hm,fun b' hm'=>by simp at hm';subst hm';exact⟨⟨blk0,hb,hw⟩,rfl⟩⟩ (fun b' hb'=>by simp at hb';subst hb';exact hm) (fun d' h'=>by rw[ho] at h';cases h';exact hd) ?_
 have e:St.app ⟨n,fr,hp⟩ o.dst {v,dead:=[b],new:=[blk]}=⟨n,(d,v)::fr,hp.set b none++[some blk]⟩:=by
  unfold St.app;rw[ho];simp only[put,LH b hp 0 (SK _),BG,Nat.sub_zero]
 rw[e];exact h
theorem B8.chg{b:Nat}{v:AV}{blk blk0:Blk}(hg:o.guard=none)(ho:o.dst=none)(hb:nth hp b=some blk0)(hw:blk0.wr=true)(hop:Al P o (St.ev ⟨n,fr,hp⟩) (nth hp) hp.length {v,chg:=[(b,blk)]})
  (h:B8 P m r ⟨n,fr,hp.set b (some blk)⟩ st'):B8 P m (o::r) ⟨n,fr,hp⟩ st':=by
 refine .cons hg hop (Hi hb hw) (fun b' hb'=>by simp at hb') (fun d' h'=>by rw[ho] at h';cases h') ?_
 have e:St.app ⟨n,fr,hp⟩ o.dst {v,chg:=[(b,blk)]}=⟨n,fr,hp.set b (some blk)⟩:=by
  unfold St.app;rw[ho];simp only[put,N3 b blk hp 0 (SK _),BG,Nat.sub_zero,List.append_nil]
 rw[e];exact h
theorem Ren.slots{m n:Nat}{fr fr':List (Nat×AV)}{hp:List (Option Blk)}(h:∀s,Ak fr' s = .unk\/Ak fr' s=Ak fr s):Ren m ⟨n,fr,hp⟩ ⟨n,fr',hp⟩:=by
 intro A0 n0 φ a w hm hr
 refine⟨φ,⟨hr.defs,hr.size,fun s=>?_,hr.heap,hr.out,hr.base,hr.own⟩,hm,.refl m φ _ w⟩
 show VR _ _ _ (Ak fr' s) _
 rcases h s with h | h
 .rw[h];exact .imm _ _ (.unk _)
 .rw[h];exact hr.slot s
structure RowsH(hp:List (Option Blk))(es:List AV)(fl:Bool)(g:List (List AV))(ν:Nat->Nat):Prop where
 top:nth hp 0=some (Blk.mk es 1 fl true none)
 len:es.length=g.length
 nil:∀i,i<g.length->g.getD i []=[]->es[i]?=some .nils
 row:∀i,i<g.length->g.getD i []≠[]->es[i]?=some (.sl (ν i) 0 (g.getD i []).length)/\nth hp (ν i)=some (Blk.mk (g.getD i []) 1 true true none)/\1<=ν i
 inj:∀i j,i<g.length->j<g.length->g.getD i []≠[]->g.getD j []≠[]->ν i=ν j->i=j
 flat:∀i,i<g.length->∀c∈g.getD i [],c.one=true/\c.cells=[c]/\c.noref=true
theorem RowsH.freeze{hp:List (Option Blk)}{es:List AV}{fl:Bool}{g:List (List AV)}{ν:Nat->Nat}(h:RowsH hp es fl g ν){n:Nat}{x:AV}{φ:Phi}{A0:Nat->Prop}{n0:Nat}{w:World}{v:Value}{ac:Act}{st:St}(hst:st.hp=hp)
  (hr:Rel A0 n0 0 φ st ac w) (hv:VR φ (Ok A0 n0 φ st.h w) w (.sl 0 0 g.length) v):RT (Ok A0 n0 (fun _=>none) (nth []) w) w (.lst (g.map AV.lst)) v:=by
 have hA:∀r,Ok A0 n0 φ st.h w r->Ok A0 n0 (fun _=>none) (nth []) w r:=fun r ⟨h1,h2,_⟩=>⟨h1,h2,fun⟨b,blk,z,hb,_⟩=>by simp[nth] at hb⟩
 have hB:∀b blk r z,st.h b=some blk->φ b=some (r,z)->Ok A0 n0 (fun _=>none) (nth []) w r:=fun b blk r z hb hφ=>by
  refine⟨.inr (hr.own b r z (SK _) hφ),?_,fun⟨b,blk,z,hb,_⟩=>by simp[nth] at hb⟩
  rcases hr.heap.blk b blk hb with ⟨_,h0,_⟩ | ⟨r',cs,T,h1,h2,_⟩ | ⟨_,r',_,h1,_,h2⟩
  .rw[hφ] at h0;cases h0
  .rw[hφ] at h1;simp at h1;rw[h1.1];exact(Th.1 h2).1
  .rw[hφ] at h1;simp at h1;rw[h1.1];exact(Th.1 h2).1
 have htop:st.h 0=some (Blk.mk es 1 fl true none):=by unfold St.h;rw[hst];exact h.top
 -- one row
 have row:∀i,i<g.length->∀e u,es[i]?=some e->VR φ (Ok A0 n0 φ st.h w) w e u->RT (Ok A0 n0 (fun _=>none) (nth []) w) w (.lst (g.getD i [])) u:=by
  intro i hi e u he hu
  by_cases hg:g.getD i []=[]
  .rw[h.nil i hi hg] at he
   cases he
   rw[hg]
   cases hu with
   | imm a v h=>cases h;exact .lnil none
  .obtain⟨h1,h2,_⟩:=h.row i hi hg
   rw[h1] at he
   cases he
   have h2':st.h (ν i)=some (Blk.mk (g.getD i []) 1 true true none):=by unfold St.h;rw[hst];exact h2
   rcases hu.sl_inv with ⟨h0,a,rfl⟩ | ⟨r,z,cap,hb,hn,hrs,rfl⟩
   .exact absurd (List.eq_nil_of_length_eq_zero h0) hg
   .obtain⟨hz,_,cs,T,hrr,hsz,hrow⟩:=hr.heap.row h2' hb (.inr rfl)
    have hz1:z=1:=hz
    subst hz1
    refine VR.lst_mk (φ:=φ) (z:=1) hrr (hB _ _ _ _ h2' hb) hn (fun e he c hc=>?_) fun k e he=>?_
    .obtain⟨j,hj⟩:=List.getElem?_of_mem he
     obtain⟨_,a2,a3⟩:=h.flat i hi e he
     rw[a2] at hc;simp at hc;subst hc;exact a3
    .obtain⟨g1,g2⟩:=hrow.cell _ e he
     refine⟨g1,fun j c hj=>?_⟩
     obtain⟨g3,u,g4,g5⟩:=g2 j c hj
     refine⟨g3,u,?_,g5.mono (fun _ _ h=>h) hA (fun _ _=>rfl) (fun _=>SJ _)⟩
     rw[SQ] at g4
     split at g4
     .simpa using g4
     .cases g4
 rcases hv.sl_inv with ⟨h0,a,rfl⟩ | ⟨r,z,cap,hb,hn,hrs,rfl⟩
 .have:g=[]:=List.eq_nil_of_length_eq_zero h0
  subst this
  exact .lnil a
 .obtain⟨hz,_,cs,T,hrr,hsz,hrow⟩:=hr.heap.row htop hb (.inr rfl)
  have hz1:z=1:=hz
  subst hz1
  have hl:(g.map AV.lst).length=g.length:=SB _
  have cell:∀i,i<g.length->∃e u,es[i]?=some e/\cs[i]?=some u/\VR φ (Ok A0 n0 φ st.h w) w e u:=fun i hi=>by
   have hil':i<es.length:=by rw[h.len];exact hi
   have he:es[i]?=some (es[i]'hil'):=Sy hil'
   have hone:(es[i]'hil').cells=[es[i]'hil']:=by
    by_cases hg:g.getD i []=[]
    .have:=h.nil i hi hg;rw[he] at this;rw[S5 this];rfl
    .have:=(h.row i hi hg).1;rw[he] at this;rw[S5 this];rfl
   obtain⟨_,g2⟩:=hrow.cell _ _ he
   obtain⟨_,u,g4,g5⟩:=g2 0 (es[i]'hil') (by rw[hone];rfl)
   rw[SQ] at g4
   split at g4
   .exact⟨_,u,he,by simpa using g4,g5⟩
   .cases g4
  have:=RT.lst (A:=Ok A0 n0 (fun _=>none) (nth []) w) (w:=w) (g.map AV.lst) r (0 * 1) cap 1 (fun i j=>cs.getD i undef) (by rw[hl];exact hn) (fun _=>hB _ _ _ _ htop hb) (fun e he=>by obtain⟨x,_,rfl⟩:=S3.1 he;rfl)
   (fun e he c hc=>by obtain⟨x,_,rfl⟩:=S3.1 he;simp[AV.cells] at hc;subst hc;rfl)
   (fun i j hi hj=>by
    rw[hl] at hi
    obtain⟨e,u,_,h2,_⟩:=cell i hi
    have hj0:j=0:=by omega
    subst hj0
    rw[cell_of_row w r _ cs T (0,0) hrr]
    simp[h2])
   (fun i j e c hi hj=>by
    rw[SI] at hi
    cases hg:g[i]? with
    | none=>rw[hg] at hi;cases hi
    | some x=>
     rw[hg] at hi
     cases hi
     have hil:=(SA.1 hg).1
     obtain⟨e,u,h1,h2,h3⟩:=cell i hil
     have hx:g.getD i []=x:=by rw[Sz,hg];rfl
     have hrt:=row i hil e u h1 h3
     rw[hx] at hrt
     match j,hj with
     | 0,hj=>simp[AV.cells] at hj;subst hj;simpa [h2] using hrt)
  rw[hl] at this
  exact this
end Go.AX
namespace Go.Proofs.Ytedjkebooffjpaa
theorem _root_.Go.AX.B8.av{P:Program}{m:Nat}{o:Oper}{r:List Oper}{n d:Nat}{fr:List (Nat×AV)}{hp:List (Option Blk)}{st':St}(v:AV)(hg:o.guard=none)(ho:o.dst=some d)(hd:Nat.ble (d+1) n=true)(h:aop P o (St.ev ⟨n,fr,hp⟩) hp .no=some ({v},True))(k:B8 P m r ⟨n,(d,v)::fr,hp⟩ st'):B8 P m (o::r) ⟨n,fr,hp⟩ st':=.val hg ho (SX hd) (Gh h trivial).1 k
theorem J8{hp:List (Option Blk)}{c:Nat}{x:Blk}(h:nth hp c=some x):c<hp.length:=by
 rw[Dv] at h
 rcases Tv c hp.length with h1 | h1
 .exact h1
 .rw[SW h1] at h;cases h
theorem Qg{k:Nat}{v:AV}{l:List (Nat×AV)}{s:Nat}(h:k≠s):AX.Ak ((k,v)::l) s=AX.Ak l s:=by
 have:Nat.beq k s=false:=by cases hq:Nat.beq k s with | false=>rfl | true=>exact absurd (SF hq) h
 simp only[AX.Ak,this]
def Ld(fr fr':List (Nat×AV)):List Nat->Prop
 | []=>True
 | k::ks=>AX.Ak fr' k=AX.Ak fr k/\Ld fr fr' ks
theorem On:∀{l:List (Nat×AV)} {s:Nat},s∉l.map (·.1)->AX.Ak l s = .unk
 | [],_,_=>rfl
 | (k,v)::l,s,h=>by
  rw[Qg (fun e=>h (by simp[e])),On (fun e=>h (SP _ e))]
theorem Pm{fr fr':List (Nat×AV)}:∀{ks:List Nat},Ld fr fr' ks->∀s∈ks,AX.Ak fr' s=AX.Ak fr s
 | [],_,s,h=>by cases h
 | k::ks,h,s,hs=>(S1.1 hs).elim (fun e=>by rw[e];exact h.1) (Pm h.2 s)
theorem _root_.Go.AX.Ren.keys{m n:Nat}{fr fr':List (Nat×AV)}{hp:List (Option Blk)}(h:Ld fr fr' (fr'.map (·.1))):Ren m ⟨n,fr,hp⟩ ⟨n,fr',hp⟩:=
 Ren.slots fun s=>if hs:s∈fr'.map (·.1) then .inr (Pm h s hs) else .inl (On hs)
inductive Rcv (g:List (List Int)) (s:List Bool) (v:Nat):Nat->Prop
 | refl (h:s.getD v true=false):Rcv g s v v
 | step {u w:Nat} (h:Rcv g s v u) (hw:(w:Int)∈g.getD u []) (ho:s.getD w true=false):Rcv g s v w
theorem Rcv.lt{g:List (List Int)}{s:List Bool}{v k:Nat}(hs:s.length=g.length)(h:Rcv g s v k):k<g.length:=by
 have key:∀x,s.getD x true=false->x<g.length:=fun x hx=>by
  rcases Tv x s.length with h | h
  .omega
  .rw[Sz,SW h] at hx;cases hx
 cases h with
 | refl h=>exact key _ h
 | step _ _ ho=>exact key _ ho
end Go.Proofs.Ytedjkebooffjpaa
namespace Go.AX
variable {P:Program}
def Jo(P:Program)(o:Oper)(ev:Operand->AV)(h:Hp)(nb:Nat)(S:OpR->Prop):Prop:=
 ∀(φ:Phi) (A:Nat->Prop) (w:World) (a:Act) (K:Act->World->Prop) (Q:Exit->Act->World->Prop),
  (∀r,A r->r<w.heap.size/\¬Mut φ h r)->(∀x,VR φ A w (ev x) (a.eval x))->HR φ A w h->(∀b,nb<=b->φ b=none)->
  (∀R v' w' φ',S R->Eff φ A w h nb R v' w' φ'->K (a.put o.dst v') w')->o.wp P a w K Q
inductive Cd (P:Program) (m:Nat) (ops:Array Oper):List Oper->St->(St->Prop)->Prop
 | nil {st:St} {k:St->Prop} (h:k st):Cd P m ops [] st k
 | one {o:Oper} {r:List Oper} {st:St} {k:St->Prop} {S:OpR->Prop} (hg:∀kk want,o.guard=some (kk,want)->∃g,(ops[kk]?).bind (·.dst)=some g/\Ak st.fr g = .bool want) (hop:Jo P o st.ev (nth st.hp) st.hp.length S)
   (hf:∀R,S R->R.fits (nth st.hp)/\(∀b,b∈R.dead->m<=b)/\∀d,o.dst=some d->d<st.n) (h:∀R,S R->Cd P m ops r (st.app o.dst R) k):Cd P m ops (o::r) st k
 | skip {o:Oper} {r:List Oper} {st:St} {k:St->Prop} {kk g:Nat} {want:Bool} (hg:o.guard=some (kk,want)) (hk:(ops[kk]?).bind (·.dst)=some g) (hv:Ak st.fr g = .bool (!want)) (hd:∀d,o.dst=some d->d<st.n)
   (h:Cd P m ops r (st.app o.dst {v:=.tup []}) k):Cd P m ops (o::r) st k
theorem R4{m:Nat}{ops:Array Oper}{Q:Exit->Act->World->Prop}{A0:Nat->Prop}{n0:Nat}:∀{l:List Oper} {st:St} {k:St->Prop},Cd P m ops l st k->
  ∀{φ:Phi} {a:Act} {w:World},m<=st.hp.length->Rel A0 n0 m φ st a w->
   (∀st' φ' a' w',k st'->m<=st'.hp.length->Rel A0 n0 m φ' st' a' w'->Tr m φ st.h w φ' st'.h w'->Q .normal a' w')->wpList P ops Q l a w:=by
 intro l st k h
 induction h with
 | nil h=>intro φ a w hm hr K;exact K _ φ a w h hm hr (.refl _ _ _ _)
 | @one o r st k S hg hop hf h ih=>
  intro φ a w hm hr K
  unfold wpList
  rw[Sw (Ju (φ:=φ) (A:=Ok A0 n0 φ st.h w) (w:=w) fun kk want hk=>by
   obtain⟨g,g1,g2⟩:=hg kk want hk
   exact⟨g,g1,by rw[<-g2];exact hr.slot g⟩)]
  left
  refine hop φ (Ok A0 n0 φ st.h w) w a _ _ (fun r hA=>⟨hA.2.1,hA.2.2⟩) hr.ev hr.heap hr.out fun R v' w' φ' hS he=>?_
  obtain⟨f1,f2,f3⟩:=hf R hS
  have hm':m<=(st.app o.dst R).hp.length:=by simp[St.app,EI,EW];omega
  obtain⟨s1,s2⟩:=hr.step hm f2 f3 f1 he
  exact ih R hS hm' s1 fun st2 φ2 a2 w2 g0 g1 g2 g3=>K st2 φ2 a2 w2 g0 g1 g2 (s2.trans g3)
 | @skip o r st k kk g want hg hk hv hd h ih=>
  intro φ a w hm hr K
  unfold wpList
  rw[Sx (by rw[MS hg hk (.inl hv) (hr.slot g)];simp)]
  have he:Eff φ (Ok A0 n0 φ st.h w) w st.h st.hp.length {v:=.tup []} undef w φ:=Eff.skip hr.out
  have hm':m<=(st.app o.dst {v:=.tup []}).hp.length:=by simp[St.app,EI,EW];omega
  obtain⟨s1,s2⟩:=hr.step hm (fun b hb=>by simp at hb) hd (OpR.fits_value _ _) he
  exact ih hm' s1 fun st2 φ2 a2 w2 g0 g1 g2 g3=>K st2 φ2 a2 w2 g0 g1 g2 (s2.trans g3)
set_option linter.unusedVariables false in
theorem T.opsN{m id:Nat}{ops:Array Oper}{st:St}{post:Exit->St->Prop}(h:Cd P m ops ops.toList st (post .normal)):T P m (.region id ops false) st post:=
 fun A0 n0 φ a w hm hr=>wp_region_list (R4 h hm hr fun st' φ' a' w' g0 g1 g2 g3=>⟨φ',_,g0,g2,g1,g3⟩)
theorem Al.s{o:Oper}{ev:Operand->AV}{h:Hp}{nb:Nat}{R:OpR}(hop:Al P o ev h nb R):Jo P o ev h nb (fun R'=>R'=R):=
 fun φ A w a K Q h1 h2 h3 h4 h5=>hop φ A w a K Q h1 h2 h3 h4 fun v' w' φ' he=>h5 R v' w' φ' rfl he
theorem Cd.val{m:Nat}{ops:Array Oper}{o:Oper}{r:List Oper}{n:Nat}{fr:List (Nat×AV)}{hp:List (Option Blk)}{k:St->Prop}{d:Nat}{v:AV}(hg:∀kk want,o.guard=some (kk,want)->∃g,(ops[kk]?).bind (·.dst)=some g/\Ak fr g = .bool want)(ho:o.dst=some d)(hd:d<n)(hop:Al P o (St.ev ⟨n,fr,hp⟩) (nth hp) hp.length {v})(h:Cd P m ops r ⟨n,(d,v)::fr,hp⟩ k):Cd P m ops (o::r) ⟨n,fr,hp⟩ k:=by
 refine .one hg hop.s (fun R' e=>by subst e;exact⟨OpR.fits_value _ _,fun b hb=>by simp at hb,fun d' h'=>by rw[ho] at h';cases h';exact hd⟩) (fun R' e=>?_)
 subst e
 have e:St.app ⟨n,fr,hp⟩ o.dst {v}=⟨n,(d,v)::fr,hp⟩:=by
  unfold St.app;rw[ho];simp only[put,H7,BG,List.append_nil]
 rw[e];exact h
theorem Cd.new{m:Nat}{ops:Array Oper}{o:Oper}{r:List Oper}{n:Nat}{fr:List (Nat×AV)}{hp:List (Option Blk)}{k:St->Prop}{d:Nat}{v:AV}{blk:Blk}(hg:∀kk want,o.guard=some (kk,want)->∃g,(ops[kk]?).bind (·.dst)=some g/\Ak fr g = .bool want)(ho:o.dst=some d)(hd:d<n)(hop:Al P o (St.ev ⟨n,fr,hp⟩) (nth hp) hp.length {v,new:=[blk]})(h:Cd P m ops r ⟨n,(d,v)::fr,hp++[some blk]⟩ k):Cd P m ops (o::r) ⟨n,fr,hp⟩ k:=by
 refine .one hg hop.s (fun R' e=>by subst e;exact⟨⟨fun b blk hm=>by simp at hm,fun b hm=>by simp at hm⟩,fun b hb=>by simp at hb,fun d' h'=>by rw[ho] at h';cases h';exact hd⟩) (fun R' e=>?_)
 subst e
 have e:St.app ⟨n,fr,hp⟩ o.dst {v,new:=[blk]}=⟨n,(d,v)::fr,hp++[some blk]⟩:=by
  unfold St.app;rw[ho];simp only[put,H7,BG]
 rw[e];exact h
theorem noG{ops:Array Oper}{o:Oper}{fr:List (Nat×AV)}(h:o.guard=none):∀kk want,o.guard=some (kk,want)->∃g,(ops[kk]?).bind (·.dst)=some g/\Ak fr g = .bool want:=fun kk want e=>by rw[h] at e;cases e
def QApp(nb b i z:Nat)(es src:List AV)(flat:Bool)(R:OpR):Prop:=
 ∃es' i',i'<=es'.length/\es'.drop i'=es.drop i++src/\es'.length<=es.length+src.length/\R={v:=.sl nb i' (es'.length-i'),dead:=[b],new:=[{es:=es',z,flat}]}
theorem Cd.q{m:Nat}{o:Oper}{r:List Oper}{n d b i z:Nat}{fr:List (Nat×AV)}{hp:List (Option Blk)}{es src:List AV}{flat:Bool}{blk0:Blk}{k:St->Prop}{ops:Array Oper}(hg:o.guard=none)(ho:o.dst=some d)(hd:d<n)
  (hb:nth hp b=some blk0) (hw:blk0.wr=true) (hm:m<=b) (hop:Jo P o (St.ev ⟨n,fr,hp⟩) (nth hp) hp.length (QApp hp.length b i z es src flat))
  (h:∀es' i',i'<=es'.length->es'.drop i'=es.drop i++src->es'.length<=es.length+src.length->Cd P m ops r ⟨n,(d,.sl hp.length i' (es'.length-i'))::fr,hp.set b none++[some {es:=es',z,flat}]⟩ k):Cd P m ops (o::r) ⟨n,fr,hp⟩ k:=by
 refine .one (noG hg) hop (fun R hR=>?_) fun R hR=>?_
 .obtain⟨es',i',h1,h2,h3,rfl⟩:=hR
  exact⟨⟨fun b blk hm=>by simp at hm,fun b' hm'=>by simp at hm';subst hm';exact⟨⟨blk0,hb,hw⟩,rfl⟩⟩,fun b' hb'=>by simp at hb';subst hb';exact hm,fun d' h'=>by rw[ho] at h';cases h';exact hd⟩
 .obtain⟨es',i',h1,h2,h3,rfl⟩:=hR
  have e:St.app ⟨n,fr,hp⟩ o.dst {v:=.sl hp.length i' (es'.length-i'),dead:=[b],new:=[{es:=es',z,flat}]}=⟨n,(d,.sl hp.length i' (es'.length-i'))::fr,hp.set b none++[some {es:=es',z,flat}]⟩:=by
   unfold St.app;rw[ho];simp only[put,LH b hp 0 (SK _),BG,Nat.sub_zero]
  rw[e];exact h es' i' h1 h2 h3
end Go.AX
namespace Go.Proofs.Ytedjkebooffjpaa
theorem _root_.Go.AX.Cd.av{P:Program}{m:Nat}{ops:Array Oper}{o:Oper}{r:List Oper}{n d:Nat}{fr:List (Nat×AV)}{hp:List (Option Blk)}{k:St->Prop}(v:AV)(hg:o.guard=none)(ho:o.dst=some d)(hd:Nat.ble (d+1) n=true)(h:aop P o (St.ev ⟨n,fr,hp⟩) hp .no=some ({v},True))(q:Cd P m ops r ⟨n,(d,v)::fr,hp⟩ k):Cd P m ops (o::r) ⟨n,fr,hp⟩ k:=.val (noG hg) ho (SX hd) (Gh h trivial).1 q
def ckSSt(n:Ab)(sp:Int):Empty->St
 | x=>x.elim
def ckSHd:Empty->Nat
 | x=>x.elim
def Kw(n:Ab)(sp:Int):Option (Empty⊕Ret):=
 gu (Rows n.nx) <|
 br (!AY n)
 (some (.inr ([],iV 20)))
 (br (decide (sp<0))
  (some (.inr ([],iV 19)))
  (br (decide (iN (List.map sA n.ss).length<=sp))
   (some (.inr ([],iV 19)))
   (some (.inr ([],iV 0)))))
def ckSStep(n:Ab)(sp:Int):Empty->Option (Empty⊕Ret)
 | x=>x.elim
theorem ckSEn_ok(n:Ab)(sp:Int)(o:Empty⊕Ret)(h:Kw n sp=some o):Arr Try.prog Try.f86 0 (ckSSt n sp) ckSHd (zB Try.f86) [] {n:=Try.f86.ntmps,fr:=AJ 0 ([Ag n,.int .i64 sp]),hp:=([])} o:=
 Scr.ok h mix (
 .rn 0 [] [] [] [] (al (u2 t2)) <|
 .gu fun a0=>
 have c0:=Ms a0;
 .rn 0 [] [] [(7,hK c0 [] [])] [] (al (u2 (aj (ak (aj t9 (al (c0)))) (u2 s2)))) <|
 .br (fun a1=>
 .rt [11] [] [] [] [] [] (aj (aj a1 s2) t2))
 (fun a1=>
 .br (fun a2=>
  .rt [10,25] [] [] [] [] [] (aj (aj a1 (aj (u2 (u2 (u2 (aj a2 (aj a2 (aj a2 (aj a2 (aj a2 (ag a2 s2))))))))) (ak s2))) t2))
 (fun a2=>
  .rn 0 [10,24] [] [] [] (aj a1 (al (u2 (u2 (u2 (ag a2 (ag a2 (ag a2 (ag a2 (aj (aj a2 t3) (ag a2 s2))))))))))) <|
  .br (fun a3=>
  .rt [24,19] [] [] [] [] [] (aj (aj a3 s2) t2))
  (fun a3=>
  .rt [24,18] [] [] [] [] [] (aj (aj a3 s2) t2))))) (by kernel_rfl)
theorem ckS_ct(n:Ab)(sp:Int)(r:Ret)(h:Ax (ckSStep n sp) (Kw n sp) r):CT Try.prog 86 ([]) ([Ag n,.int .i64 sp]) r.1 r.2:=
 CT.mach (fn:=Try.f86) (c:=zB Try.f86) (S:=ckSSt n sp) (hd:=ckSHd) Try.func86 (by kernel_rfl) (nL rfl)
  (fun s o ho=>match s,ho with
   | x,_=>x.elim)
  (fun o ho=>ckSEn_ok n sp o ho) h
def cntSt(n:Ab):Empty->St
 | x=>x.elim
def cntHd:Empty->Nat
 | x=>x.elim
def K2(n:Ab):Option (Empty⊕Ret):=
 gu (Rows n.nx) <|
 br (!AY n)
 (some (.inr ([],AV.tup [iV 0,iV 20])))
 (gu (Aw n) <|
  some (.inr ([],AV.tup [iV (iN (Au n)),iV 0])))
def cntStep(n:Ab):Empty->Option (Empty⊕Ret)
 | x=>x.elim
theorem cntEn_ok(n:Ab)(o:Empty⊕Ret)(h:K2 n=some o):Arr Try.prog Try.f43 0 (cntSt n) cntHd (zB Try.f43) [] {n:=Try.f43.ntmps,fr:=AJ 0 ([Ag n]),hp:=([])} o:=
 Scr.ok h mix (
 .rn 0 [] [] [] [] (al (u2 t3)) <|
 .gu fun a0=>
 have c0:=Ms a0;
 .rn 0 [] [] [(5,hK c0 [] [])] [] (al (u2 (aj (ak (aj t9 (al (c0)))) s2))) <|
 .br (fun a1=>
 .rt [13] [] [] [] [] [] (aj (aj a1 (al t3)) (al t3)))
 (fun a1=>
 .gu fun a2=>
 have c1:=N1 a2;
 .rt [12] [] [(8,hK c1 [] [])] [] [] [] (aj (aj a1 (al (u2 (aj (ak (aj t9 (al (c1)))) (u2 t2))))) (al t3)))) (by kernel_rfl)
theorem cnt_ct(n:Ab)(r:Ret)(h:Ax (cntStep n) (K2 n) r):CT Try.prog 43 ([]) ([Ag n]) r.1 r.2:=
 CT.mach (fn:=Try.f43) (c:=zB Try.f43) (S:=cntSt n) (hd:=cntHd) Try.func43 (by kernel_rfl) (nL rfl)
  (fun s o ho=>match s,ho with
   | x,_=>x.elim)
  (fun o ho=>cntEn_ok n o ho) h
def csE(n:Ab)(sp:Int):Int:=if AY n=true then (if sp<0\/(n.ss.length:Int)<=sp then 19 else 0) else 20
theorem QX{n:Ab}(hrw:Rows n.nx)(sp:Int):CT Try.prog 86 [] [Ag n,.int .i64 sp] [] (.int .i64 (csE n sp)):=by
 refine ckS_ct n sp ([],_) (.val ?_)
 unfold Kw csE
 rw[Aa hrw]
 cases hv:AY n with
 | false=>rfl
 | true=>
  rw[Ai (by rfl),Sw rfl]
  by_cases h0:sp<0
  .rw[Am (AE h0),Sw (.inl h0)]
  by_cases h1:(n.ss.length:Int)<=sp
  .rw[Ai (Ar h0),Am (AE (by simpa [iN] using h1)),Sw (.inr h1)]
  .rw[Ai (Ar h0),Ai (Ar (by simpa [iN] using h1)),Sx (by omega)]
def H5(n:Ab):Int:=if AY n=true then (Au n:Int) else 0
def JU(n:Ab):Int:=if AY n=true then 0 else 20
theorem cnt_c{n:Ab}(hrw:Rows n.nx):CT Try.prog 43 [] [Ag n] [] (.tup [.int .i64 (H5 n),.int .i64 (JU n)]):=by
 refine cnt_ct n ([],_) (.val ?_)
 unfold K2 H5 JU
 rw[Aa hrw]
 cases hv:AY n with
 | false=>rfl
 | true=>rw[Ai (by rfl),Aa (Cz.1 hv)];rfl
theorem Rcv.trans{g:List (List Int)}{s:List Bool}{a b c:Nat}(h:Rcv g s a b)(k:Rcv g s b c):Rcv g s a c:=by
 induction k with
 | refl _=>exact h
 | step _ hw ho ih=>exact .step ih hw ho
section
variable {n:Nat} {ok:Nat->Bool} {L:Nat->Nat->Bool}
structure Hr(n:Nat)(ok:Nat->Bool)(L:Nat->Nat->Bool)(mk mk':List Bool):Prop where
 len:mk'.length=mk.length
 mono:∀x,mk.getD x false=true->mk'.getD x false=true
 sound:∀P:Nat->Prop,(∀b c,b<n->c<n->P c->ok b=true->L b c=true->P b)->(∀x,mk.getD x false=true->P x)->∀x,mk'.getD x false=true->P x
theorem Hr.refl(mk:List Bool):Hr n ok L mk mk:=⟨rfl,fun _ h=>h,fun _ _ h=>h⟩
theorem Hr.trans{a b c:List Bool}(h:Hr n ok L a b)(k:Hr n ok L b c):Hr n ok L a c:=
 ⟨k.len.trans h.len,fun x hx=>k.mono x (h.mono x hx),fun P hP ha=>k.sound P hP (h.sound P hP ha)⟩
end
structure Ae where
 cl:List Bool
 bw:List Int
 pe:List Int
structure Aq where
 ow:List Int
 qu:List (List Int)
def sgA(s:Ae):AV:=.agg [.lst (boL s.cl),lI s.bw,lI s.pe]
def lkA(l:Aq):AV:=.agg [lI l.ow,.lst (gL l.qu)]
inductive El where
 | l0 (v0:Int)
def J3(l:List Int)(q:Int):El->St
 | .l0 v0=>St.mk 19 [(0,AV.lst (List.map (iv) l)),(1,iv q),(7,iv (iN (List.map (iv) l).length)),(8,iv v0)] []
def LZ:El->Nat
 | .l0 _=>0
def idxEn(l:List Int)(q:Int):Option (El⊕Ret):=
 some (.inl (.l0 ((0:Int))))
def EO(l:List Int)(q v0:Int):Option (El⊕Ret):=
 br (decide (v0<iN (List.map iV l).length))
 (gu (0<=v0) <|
  el l (v0.toNat) fun(x14:Int)=>
  br (q==x14)
  (some (.inr ([],iV v0)))
  (some (.inl (.l0 (i64.wrap (v0+1))))))
 (some (.inr ([],iV (-1))))
def idxStep(l:List Int)(q:Int):El->Option (El⊕Ret)
 | .l0 v0=>EO l q v0
theorem idxEn_ok(l:List Int)(q:Int)(o:El⊕Ret)(h:idxEn l q=some o):Arr Try.prog Try.f96 0 (J3 l q) LZ (zB Try.f96) [] {n:=Try.f96.ntmps,fr:=AJ 0 ([lI l,.int .i64 q]),hp:=([])} o:=
 Scr.ok h mix (
 .lp [] [] [] [] [] [] [0,1,7,8] (aj (u2 (al (u2 (u2 t2)))) t5)) (by kernel_rfl)
theorem idxS0_ok(l:List Int)(q v0:Int)(o:El⊕Ret)(h:EO l q v0=some o):Arr Try.prog Try.f96 0 (J3 l q) LZ (Az Try.f96 0) (.rnd (Az Try.f96 0)::AN Try.f96 0) (J3 l q (.l0 v0)) o:=
 Scr.ok h mix (
 .rn 0 [] [] [] [] (al (al t3)) <|
 .br (fun a0=>
 .rn 0 [19] [] [] [] (aj a0 (al (u2 s2))) <|
 .gu fun a1=>
 .el fun x14 a2=>
 .rn 0 [] [(14,iv x14)] [] [] (al (u2 (u2 (u2 (aj (k2 (aj a1 (AD (f:=iv) a2))) (u2 (al t3))))))) <|
 .br (fun a3=>
  .rt [33] [] [] [] [] [] (aj (aj a3 (al (u2 s2))) t2))
 (fun a3=>
  .lp [32] [] [] [] [] [] [0,1,7,8] (aj (aj a3 (al (u2 s2))) t5)))
 (fun a0=>
 .rt [18] [] [] [] [] [] (aj (aj a0 s2) t2))) (by kernel_rfl)
theorem idx_ct(l:List Int)(q:Int)(r:Ret)(h:Ax (idxStep l q) (idxEn l q) r):CT Try.prog 96 ([]) ([lI l,.int .i64 q]) r.1 r.2:=
 CT.mach (fn:=Try.f96) (c:=zB Try.f96) (S:=J3 l q) (hd:=LZ) Try.func96 (by kernel_rfl) (nL rfl)
  (fun s o ho=>match s,ho with
   | .l0 v0,ho=>idxS0_ok l q v0 o ho
  )
  (fun o ho=>idxEn_ok l q o ho) h
inductive EH where
 | l0 (v0:Int) (v1:List Bool)
def Ho(q:Ae):EH->St
 | .l0 v0 v1=>St.mk 23 [(1,AV.ptr 0 0 0),(3,AV.sl 1 0 (boL q.cl).length),(4,iv v0)] [some (bK [AV.agg [AV.lst (boL q.cl),AV.lst (List.map (iv) q.bw),AV.lst (List.map (iv) q.pe)]] 3),some (bK (List.map bV v1) 1)]
def Lg:EH->Nat
 | .l0 _ _=>0
def Mf(q:Ae):Option (EH⊕Ret):=
 gu (∀(e:AV),e∈boL q.cl->e.cells.length=1) <|
 gu ((boL q.cl).length<=9223372036854775807) <|
 gu ((boL q.cl).length * 1<=140737488355328) <|
 some (.inl (.l0 ((0:Int)) (q.cl)))
def GM(q:Ae)(v0:Int)(v1:List Bool):Option (EH⊕Ret):=
 br (decide (v0<iN (List.map iV q.pe).length))
 (gu (0<=v0) <|
  el (q.pe) (v0.toNat) fun(x19:Int)=>
  gu (0<=x19) <|
  gu (x19<iN (boL q.cl).length) <|
  gu ((0+x19.toNat).succ.le (List.map bV v1).length) <|
  some (.inl (.l0 (i64.wrap (v0+1)) (v1.set (0+x19.toNat) true))))
 (gu ((boL q.cl).length=(List.map bV v1).length) <|
  some (.inr ([],AV.lst (List.map bV v1))))
def celStep(q:Ae):EH->Option (EH⊕Ret)
 | .l0 v0 v1=>GM q v0 v1
theorem celEn_ok(q:Ae)(o:EH⊕Ret)(h:Mf q=some o):Arr Try.prog Try.f105 0 (Ho q) Lg (zB Try.f105) [] {n:=Try.f105.ntmps,fr:=AJ 0 ([sgA q]),hp:=([])} o:=
 Scr.ok h mix (
 .rn 0 [] [] [] [] (al (u2 t2)) <|
 .gu fun a0=>
 .gu fun a1=>
 .gu fun a2=>
 .lp [] [] [] [] [] [0,1] [1,3,4] (aj (aj (u2 (u2 (aj (ak (aj a0 (aj a1 a2))) s2))) s2) t6)) (by kernel_rfl)
theorem celS0_ok(q:Ae)(v0:Int)(v1:List Bool)(o:EH⊕Ret)(h:GM q v0 v1=some o):Arr Try.prog Try.f105 0 (Ho q) Lg (Az Try.f105 0) (.rnd (Az Try.f105 0)::AN Try.f105 0) (Ho q (.l0 v0 v1)) o:=
 Scr.ok h mix (
 .rn 0 [] [] [] [] (al (u2 (u2 (u2 (u2 (al t3)))))) <|
 .br (fun a0=>
 .gu fun a1=>
 .el fun x19 a2=>
 .gu fun a3=>
 .gu fun a4=>
 .gu fun a5=>
 .lq [25] [(19,iv x19)] [] [] [] [0,1] [1,3,4] (up [] [(1,(List.map bV v1).set (0+x19.toNat) (bV true))] (Ho q (.l0 (i64.wrap (v0+1)) (v1.set (0+x19.toNat) true)))) (aj (aj a0 (aj (u2 (u2 (u2 (u2 (aj (k2 (aj a1 (AD (f:=iv) a2))) (u2 (aj (k2 (aj a3 a4)) (al (ak a5))))))))) (al (u2 (u2 s2))))) t6) (by simp[up,upF,upV,upH,upB,Ho,gL,boL,lI]))
 (fun a0=>
 .rn 0 [24] [] [] [] (aj a0 (al (u2 s2))) <|
 .gu fun a1=>
 .rt [] [] [] [] [] [1] (ak (al a1)))) (by kernel_rfl)
theorem cel_ct(q:Ae)(r:Ret)(h:Ax (celStep q) (Mf q) r):CT Try.prog 105 ([]) ([sgA q]) r.1 r.2:=
 CT.mach (fn:=Try.f105) (c:=zB Try.f105) (S:=Ho q) (hd:=Lg) Try.func105 (by kernel_rfl) (nL rfl)
  (fun s o ho=>match s,ho with
   | .l0 v0 v1,ho=>celS0_ok q v0 v1 o ho
  )
  (fun o ho=>celEn_ok q o ho) h
def wkA:AV->AV
 | .agg cs=>.agg (cs.map wk1)
 | a=>wk1 a
def wk2:AV->AV
 | .agg cs=>.agg (cs.map wk1)
 | .tup cs=>.tup (cs.map wkA)
 | a=>wk1 a
theorem VR.wkA{φ:Phi}{A:Nat->Prop}{w:World}{a:AV}{v:Value}(h:VR φ A w a v):VR φ A w (wkA a) v:=by
 unfold Proofs.Ytedjkebooffjpaa.wkA
 split
 .cases h with
  | imm _ _ h=>
   cases h with
   | agg _ vs hl h=>
    refine .agg _ vs (by simpa using hl) fun i c v hc hv=>?_
    rw[SI] at hc
    obtain⟨c',hc',rfl⟩:=Option.map_eq_some_iff.1 hc
    exact(VR.imm _ _ (h i c' v hc' hv)).wk1
  | agg _ vs hl h=>
   refine .agg _ vs (by simpa using hl) fun i c v hc hv=>?_
   rw[SI] at hc
   obtain⟨c',hc',rfl⟩:=Option.map_eq_some_iff.1 hc
   exact(h i c' v hc' hv).wk1
 .exact h.wk1
theorem VR.wk2{φ:Phi}{A:Nat->Prop}{w:World}{a:AV}{v:Value}(h:VR φ A w a v):VR φ A w (wk2 a) v:=by
 unfold Proofs.Ytedjkebooffjpaa.wk2
 split
 .exact VR.wkA h
 .cases h with
  | imm _ _ h=>cases h
  | tup _ vs hl h=>
   refine .tup _ vs (by simpa using hl) fun i c v hc hv=>?_
   rw[SI] at hc
   obtain⟨c',hc',rfl⟩:=Option.map_eq_some_iff.1 hc
   exact VR.wkA (h i c' v hc' hv)
 .exact h.wk1
theorem CT.w2{f:FuncId}{hin hout:List (Option Blk)}{args:List AV}{res:AV}(h:CT Try.prog f hin args hout res):CT Try.prog f hin args hout (wk2 res):=h.less fun _ _ _ _ h=>VR.wk2 h
def HD(l:List Int)(x:Int):Int:=match fnd (fun i=>l.getD i 0==x) 0 l.length with | some i=>(i:Int) | none=> -1
theorem idxZ_has(l:List Int)(x:Int):decide (0<=HD l x)=AB l x:=by
 unfold HD AB
 cases fnd (fun i=>l.getD i 0==x) 0 l.length with
 | none=>rfl
 | some i=>simp
theorem idx_c(l:List Int)(x:Int)(hl:l.length<=9223372036854775807):CT Try.prog 96 [] [lI l,.int .i64 x] [] (.int .i64 (HD l x)):=by
 refine idx_ct l x ([],_) ?_
 refine(Ja (fun i=>El.l0 (i:Int)) l.length (fun i=>l.getD i 0==x) (rF:=fun i=>([],.int .i64 (i:Int))) (r:=([],.int .i64 (-1))) (fun i hi hp=>?_) (fun i r hi hp hr=>?_) (fun _=>?_)).res (by unfold HD;split<;>simp_all)
 .refine .to (show EO l x i=_ from ?_) (.ret _)
  unfold EO
  rw[B1 0 hi,Am (by rw[<-hp];exact BEq.comm)]
 .refine .to (show EO l x i=_ from ?_) hr
  unfold EO
  rw[B1 0 hi,Ai (by rw[<-hp];exact BEq.comm),zW i (by omega)]
 .refine .to (show EO l x l.length=_ from ?_) (.ret _)
  unfold EO;rw[Dm]
def CC(s:Ae):List Bool:=s.pe.foldl (fun c b=>c.set b.toNat true) s.cl
theorem KH:∀(l:List Int) (c:List Bool),(l.foldl (fun c b=>c.set b.toNat true) c).length=c.length:=by
 intro l
 induction l with
 | nil=>intro c;rfl
 | cons x l ih=>intro c;rw[List.foldl_cons,ih,S6]
theorem Gz(s:Ae):(CC s).length=s.cl.length:=KH _ _
theorem Km(l:List Bool):∀(e:AV),e∈boL l->e.cells.length=1:=fun e he=>by unfold boL at he;obtain⟨b,_,rfl⟩:=S3.1 he;rfl
theorem BV(l:List Int):∀(e:AV),e∈List.map (AV.int .i64) l->e.cells.length=1:=fun e he=>by obtain⟨b,_,rfl⟩:=S3.1 he;rfl
theorem cel_c(s:Ae)(hl:s.cl.length<=1000000)(hp:s.pe.length<=1000000)(hb:∀b∈s.pe,0<=b/\b<(s.cl.length:Int)):CT Try.prog 105 [] [sgA s] [] (.lst (boL (CC s))):=by
 refine cel_ct s ([],_) ?_
 have hL:=Ct s.cl
 unfold Mf
 rw[Aa (Km _),Aa (by omega),Aa (by omega)]
 refine NW (L:=fun i b=>EH.l0 (i:Int) b) (f:=fun c b=>c.set b.toNat true) (l:=s.pe) s.cl (fun i x hx h=>?_) ?_
 .have hlen:=KH (s.pe.take i) s.cl
  have h2:=hb x (SC hx)
  have hi:=(SA.1 hx).1
  generalize (s.pe.take i).foldl (fun c b=>c.set b.toNat true) s.cl=c at *
  refine .to (show GM s i c=_ from ?_) h
  unfold GM
  rw[rngS hx,Aa h2.1,Aa (by simp only[iN];omega),Aa (show Nat.le _ _ from(by simp only[SB];show 0+x.toNat+1<=_;omega)),zW i (by omega),SN]
 .refine .to (show GM s s.pe.length (CC s)=_ from ?_) (.ret _)
  unfold GM
  rw[Dm,Aa (by rw[hL,SB,Gz])];rfl
def bdW(s:Ae)(i:Nat):Bool:=decide (s.bw.getD i 0 < -1)||(decide (8<=s.bw.getD i 0)||(decide (0<=s.bw.getD i 0)&&!(s.cl.getD i true)))
def bdP(nb:Nat)(s:Ae)(i:Nat):Bool:=decide (s.pe.getD i 0<0)||(decide ((nb:Int)<=s.pe.getD i 0)||(s.cl.getD (s.pe.getD i 0).toNat true||AB (s.pe.take i) (s.pe.getD i 0)))
def F2(n:Ab)(s:Ae):Bool:=decide (s.cl.length=Au n)&&(decide (s.bw.length=Au n)&&((fnd (bdW s) 0 s.bw.length).isNone&&(fnd (bdP n.bs.length s) 0 s.pe.length).isNone))
def Ck(n:Ab)(s:Ae):Bool:=AY n&&F2 n s
structure BP(n:Ab)(s:Ae):Prop where
 lc:s.cl.length=Au n
 lb:s.bw.length=Au n
 bw:∀i,i<s.bw.length->-1<=s.bw.getD i 0/\s.bw.getD i 0<8/\(0<=s.bw.getD i 0->s.cl.getD i true=true)
 pb:∀b∈s.pe,0<=b/\b<(n.bs.length:Int)/\s.cl.getD b.toNat true=false
 nd:s.pe.Nodup
theorem DH{l:List Int}{x:Int}:AB l x=true↔x∈l:=by
 constructor
 .intro h
  unfold AB at h
  cases hf:fnd (fun i=>l.getD i 0==x) 0 l.length with
  | none=>rw[hf] at h;cases h
  | some i=>
   obtain⟨h1,_,h2⟩:=Ea hf
   have:l.getD i 0=x:=by simpa using h1
   rw[<-this,Sz,Sy (show i<l.length by omega)]
   exact S4 _
 .intro h
  cases hh:AB l x with
  | true=>rfl
  | false=>exact absurd h (JG hh)
theorem QQ{l:List Int}{i j:Nat}(h:j<i)(hj:j<l.length):l.getD j 0∈l.take i:=by
 have hl:j<(l.take i).length:=by rw[S0];omega
 have:(l.take i)[j]=l.getD j 0:=by rw[List.getElem_take,Sz,Sy hj];rfl
 rw[<-this];exact S4 _
theorem Kz{l:List Int}(h:∀i,i<l.length->AB (l.take i) (l.getD i 0)=false):l.Nodup:=by
 refine List.pairwise_iff_getElem.2 fun i j hi hj hij e=>?_
 refine JG (h j hj) ?_
 have h2:l.getD j 0=l.getD i 0:=by rw[Sz,Sy hj,Sz,Sy hi];exact e.symm
 rw[h2];exact QQ hij hi
theorem nd_has{l:List Int}(hn:l.Nodup){i:Nat}(hi:i<l.length):AB (l.take i) (l.getD i 0)=false:=by
 cases h:AB (l.take i) (l.getD i 0) with
 | false=>rfl
 | true=>
  obtain⟨j,hj,e⟩:=Ta.1 (DH.1 h)
  rw[S0] at hj
  rw[List.getElem_take] at e
  have:=nd_inj hn (i:=j) (j:=i) (by omega) hi (by rw[Sz,Sy (show j<l.length by omega)];exact e)
  omega
theorem G6{l:List Int}{i:Nat}(h:i<l.length):l.getD i 0∈l:=by
 rw[Sz,Sy h];exact S4 _
theorem sigF_iff{n:Ab}{s:Ae}:F2 n s=true↔BP n s:=by
 unfold F2
 simp only[SG,decide_eq_true_eq,Tn]
 constructor
 .rintro⟨h1,h2,h3,h4⟩
  have hp:∀i,i<s.pe.length->bdP n.bs.length s i=false:=fun i hi=>CB h4 i (SK _) (by omega)
  unfold bdP at hp
  simp only[Bool.or_eq_false_iff,decide_eq_false_iff_not] at hp
  refine⟨h1,h2,fun i hi=>?_,fun b hb=>?_,Kz fun i hi=>(hp i hi).2.2.2⟩
  .have:=CB h3 i (SK _) (by omega)
   unfold bdW at this
   simp only[Bool.or_eq_false_iff,decide_eq_false_iff_not,Bool.and_eq_false_iff] at this
   refine⟨by omega,by omega,fun h0=>?_⟩
   rcases this.2.2 with h | h
   .omega
   .simpa using h
  .obtain⟨i,hi,rfl⟩:=Ta.1 hb
   have:=hp i hi
   rw[Sz,Sy hi] at this
   simp only[Option.getD_some] at this
   exact⟨by omega,by omega,this.2.2.1⟩
 .intro h
  refine⟨h.lc,h.lb,Gu fun i _ hi=>?_,Gu fun i _ hi=>?_⟩
  .obtain⟨h1,h2,h3⟩:=h.bw i (by omega)
   unfold bdW
   rw[Ar (show ¬s.bw.getD i 0 < -1 by omega),Ar (show ¬8<=s.bw.getD i 0 by omega)]
   by_cases h0:0<=s.bw.getD i 0
   .rw[h3 h0];simp
   .rw[Ar h0];rfl
  .obtain⟨h1,h2,h3⟩:=h.pb _ (G6 (show i<s.pe.length by omega))
   unfold bdP
   rw[Ar (show ¬s.pe.getD i 0<0 by omega),Ar (show ¬(n.bs.length:Int)<=s.pe.getD i 0 by omega),h3,nd_has h.nd (by omega)];rfl
theorem PD{n:Ab}{s:Ae}:Ck n s=true↔Aw n/\BP n s:=by
 unfold Ck;rw[SG,Cz,sigF_iff]
theorem Mm{n:Nat}{x:Int}(h0:0<=x)(h1:x<(n:Int)):x∈(List.range n).map (fun i:Nat=>(i:Int)):=S3.2 ⟨x.toNat,Tp.2 (by omega),by omega⟩
theorem BP.pl{n:Ab}{s:Ae}(h:BP n s):s.pe.length<=n.bs.length:=by
 have:=Iz h.nd (d:=(List.range n.bs.length).map fun i:Nat=>(i:Int)) fun x hx=>Mm (h.pb x hx).1 (h.pb x hx).2.1
 rwa [SB,Tg] at this
theorem sht_get:∀{l:List Int} {c:List Bool},(∀b∈l,0<=b/\b<(c.length:Int))->∀(x:Nat),(l.foldl (fun c b=>c.set b.toNat true) c).getD x true=(c.getD x true||AB l (x:Int)):=by
 intro l
 induction l with
 | nil=>intro c _ x;simp[AB,fnd]
 | cons y l ih=>
  intro c h x
  have hy:=h y (by simp)
  rw[List.foldl_cons,ih (fun b hb=>by rw[S6];exact h b (SP _ hb)) x]
  have e:(c.set y.toNat true).getD x true=(c.getD x true||decide (y=(x:Int))):=by
   rw[Sz,Tt,Sz]
   by_cases hx:y=(x:Int)
   .rw[Sw (by omega),Sw (by omega),AE hx];simp
   .rw[Sx (by omega),Ar hx,Bool.or_false]
  have e2:AB (y::l) (x:Int)=(decide (y=(x:Int))||AB l (x:Int)):=by
   rw[Bool.eq_iff_iff,S9,DH,DH,S1,decide_eq_true_eq]
   exact or_congr eq_comm Iff.rfl
  rw[e,e2,Bool.or_assoc]
theorem shtS_get{n:Ab}{s:Ae}(hv:Aw n)(h:BP n s)(x:Nat):(CC s).getD x true=(s.cl.getD x true||AB s.pe (x:Int)):=
 sht_get (fun b hb=>by have:=h.pb b hb;have:=h.lc;have:=hv.cel;omega) x
def conSt(l:List Int)(q:Int):Empty->St
 | x=>x.elim
def conHd:Empty->Nat
 | x=>x.elim
def Mo(l:List Int)(q:Int):Option (Empty⊕Ret):=
 gu (l.length<=9223372036854775807) <|
 some (.inr ([],bV (decide (0<=HD l q))))
def conStep(l:List Int)(q:Int):Empty->Option (Empty⊕Ret)
 | x=>x.elim
theorem conEn_ok(l:List Int)(q:Int)(o:Empty⊕Ret)(h:Mo l q=some o):Arr Try.prog Try.f47 0 (conSt l q) conHd (zB Try.f47) [] {n:=Try.f47.ntmps,fr:=AJ 0 ([lI l,.int .i64 q]),hp:=([])} o:=
 Scr.ok h mix (
 .rn 0 [] [] [] [] s2 <|
 .gu fun a0=>
 have c0:=idx_c l q a0;
 .rt [] [] [(7,hK c0 [] [])] [] [] [] (aj (al (u2 (u2 (aj (ak (k3 (al (c0)))) (u2 s2))))) t2)) (by kernel_rfl)
theorem con_ct(l:List Int)(q:Int)(r:Ret)(h:Ax (conStep l q) (Mo l q) r):CT Try.prog 47 ([]) ([lI l,.int .i64 q]) r.1 r.2:=
 CT.mach (fn:=Try.f47) (c:=zB Try.f47) (S:=conSt l q) (hd:=conHd) Try.func47 (by kernel_rfl) (nL rfl)
  (fun s o ho=>match s,ho with
   | x,_=>x.elim)
  (fun o ho=>conEn_ok l q o ho) h
inductive Dj where
 | l0 (v0:Int)
 | l1 (v0:Int)
def Hq(n:Ab)(q:Ae):Dj->St
 | .l0 v0=>St.mk 96 [(2,AV.ptr 0 0 0),(3,AV.ptr 1 0 0),(5,iv v0)] [some (bK [Ag n] 8),some (bK [AV.agg [AV.lst (boL q.cl),AV.lst (List.map (iv) q.bw),AV.lst (List.map (iv) q.pe)]] 3)]
 | .l1 v0=>St.mk 96 [(2,AV.ptr 0 0 0),(3,AV.ptr 1 0 0),(6,iv v0)] [some (bK [Ag n] 8),some (bK [AV.agg [AV.lst (boL q.cl),AV.lst (List.map (iv) q.bw),AV.lst (List.map (iv) q.pe)]] 3)]
def IY:Dj->Nat
 | .l0 _=>0
 | .l1 _=>1
def foEn(n:Ab)(q:Ae):Option (Dj⊕Ret):=
 gu (Aw n) <|
 br (iN (boL q.cl).length != iN (Au n))
 (some (.inr ([],bV false)))
 (br (iN (List.map iV q.bw).length != iN (boL q.cl).length)
  (some (.inr ([],bV false)))
  (some (.inl (.l0 ((0:Int))))))
def Fh(n:Ab)(q:Ae)(v0:Int):Option (Dj⊕Ret):=
 br (decide (v0<iN (List.map iV q.bw).length))
 (gu (0<=v0) <|
  el (q.bw) (v0.toNat) fun(x33:Int)=>
  br (decide (x33 < -1))
  (some (.inr ([],bV false)))
  (el (q.bw) (v0.toNat) fun(x40:Int)=>
   br (decide (8<=x40))
   (some (.inr ([],bV false)))
   (el (q.bw) (v0.toNat) fun(x48:Int)=>
    br (x48 != -1)
    (el (q.cl) (v0.toNat) fun(x55:Bool)=>
     br (!x55)
     (some (.inr ([],bV false)))
     (some (.inl (.l0 (i64.wrap (v0+1))))))
    (some (.inl (.l0 (i64.wrap (v0+1))))))))
 (some (.inl (.l1 ((0:Int)))))
def EY(n:Ab)(q:Ae)(v0:Int):Option (Dj⊕Ret):=
 br (decide (v0<iN (List.map iV q.pe).length))
 (gu (0<=v0) <|
  el (q.pe) (v0.toNat) fun(x70:Int)=>
  br (decide (x70<0))
  (some (.inr ([],bV false)))
  (br (decide (iN (List.map bA n.bs).length<=x70))
   (some (.inr ([],bV false)))
   (gu (0<=x70) <|
    el (q.cl) (x70.toNat) fun(x85:Bool)=>
    br x85
    (some (.inr ([],bV false)))
    (gu (∀(e:AV),e∈List.map iV q.pe->e.cells.length=1) <|
     gu (v0<=iN (List.map iV q.pe).length) <|
     gu ((List.take (v0.toNat-Int.toNat 0) (List.drop (Int.toNat 0) q.pe)).length<=9223372036854775807) <|
     br (AB (List.take (v0.toNat-Int.toNat 0) (List.drop (Int.toNat 0) q.pe)) x70)
     (some (.inr ([],bV false)))
     (some (.inl (.l1 (i64.wrap (v0+1)))))))))
 (some (.inr ([],bV true)))
def foStep(n:Ab)(q:Ae):Dj->Option (Dj⊕Ret)
 | .l0 v0=>Fh n q v0
 | .l1 v0=>EY n q v0
theorem foEn_ok(n:Ab)(q:Ae)(o:Dj⊕Ret)(h:foEn n q=some o):Arr Try.prog Try.f117 0 (Hq n q) IY (zB Try.f117) [] {n:=Try.f117.ntmps,fr:=AJ 0 ([Ag n,sgA q]),hp:=([])} o:=
 Scr.ok h mix (
 .rn 0 [] [] [] [] (al (u2 (u2 t2))) <|
 .gu fun a0=>
 .br (fun a1=>
 have c0:=HQ a0;
 .rt [29] [] [(12,hK c0 [] [])] [] [] [] (aj (aj (u2 (u2 (u2 (u2 (aj (ak (aj t9 (al (c0)))) (aj t3 (u2 (aj a1 (aj a1 (aj a1 (aj a1 (aj a1 (aj a1 (aj a1 (al (aj a1 t2)))))))))))))))) (ak s2)) t2))
 (fun a1=>
 have c0:=HQ a0;
 .rn 0 [28] [] [(12,hK c0 [] [])] [] (al (u2 (u2 (u2 (u2 (aj (ak (aj t9 (al (c0)))) (aj t3 (u2 (ag a1 (ag a1 (ag a1 (ag a1 (ag a1 (ag a1 (aj (aj a1 t3) (al (aj a1 t2))))))))))))))))) <|
 .br (fun a2=>
  .rt [28,45] [] [] [] [] [] (aj (aj a2 s2) t2))
 (fun a2=>
  .lp [28,44] [] [] [] [] [0,1] [2,3,5] (aj (aj a2 s2) t6)))) (by kernel_rfl)
theorem foS0_ok(n:Ab)(q:Ae)(v0:Int)(o:Dj⊕Ret)(h:Fh n q v0=some o):Arr Try.prog Try.f117 0 (Hq n q) IY (Az Try.f117 0) (.rnd (Az Try.f117 0)::AN Try.f117 0) (Hq n q (.l0 v0)) o:=
 Scr.ok h mix (
 .rn 0 [] [] [] [] (al (u2 (u2 (u2 (u2 (al t3)))))) <|
 .br (fun a0=>
 .gu fun a1=>
 .el fun x33 a2=>
 .br (fun a3=>
  .rt [55,73] [(33,iv x33)] [] [] [] [] (aj (aj a0 (aj (u2 (u2 (u2 (aj (k2 (aj a1 (AD (f:=iv) a2))) (u2 (u2 (u2 (aj a3 (aj a3 (aj a3 (aj a3 (aj a3 (aj a3 (ag a3 (u2 (ak (k3 (k5 (k5 (al t3)))))))))))))))))))) (ak s2))) t2))
 (fun a3=>
  .el fun x40 a4=>
  .br (fun a5=>
  .rt [55,72,89] [(33,iv x33),(40,iv x40)] [] [] [] [] (aj (aj a0 (aj (u2 (u2 (u2 (aj (k2 (aj a1 (AD (f:=iv) a2))) (u2 (u2 (u2 (ag a3 (ag a3 (ag a3 (aj (aj a3 (k2 (aj a1 (AD (f:=iv) a4)))) (ag a3 (ag a3 (ag a3 (u2 (aj a5 (aj a5 (aj a5 (aj a5 (aj a5 (aj a5 (aj a5 (ak (k5 (aj a5 (al (aj a5 t2))))))))))))))))))))))))))) (ak s2))) t2))
  (fun a5=>
  .el fun x48 a6=>
  .br (fun a7=>
   .el fun x55 a8=>
   .rn 0 [55,72,88,103] [(33,iv x33),(40,iv x40),(48,iv x48),(55,bV x55)] [] [] (aj a0 (al (u2 (u2 (u2 (aj (k2 (aj a1 (AD (f:=iv) a2))) (u2 (u2 (u2 (ag a3 (ag a3 (ag a3 (aj (aj a3 (k2 (aj a1 (AD (f:=iv) a4)))) (ag a3 (ag a3 (ag a3 (u2 (ag a5 (ag a5 (ag a5 (aj (aj a5 (k2 (aj a1 (AD (f:=iv) a6)))) (ag a5 (ag a5 (ag a5 (ag a7 (ag a7 (ag a7 (aj (aj a7 (k2 (aj a1 (AD (f:=bV) a8)))) (ag a7 (ag a7 (aj (aj a5 (aj a7 t2)) (al (aj a5 t2))))))))))))))))))))))))))))))))) <|
   .br (fun a9=>
   .rt [72,88,103,119] [] [] [] [] [] (aj (aj a9 s2) t2))
   (fun a9=>
   .lp [72,88,103,118] [] [] [] [] [0,1] [2,3,5] (aj (aj a9 (al (u2 (u2 s2)))) t6)))
  (fun a7=>
   .lp [55,72,88,102] [(33,iv x33),(40,iv x40),(48,iv x48)] [] [] [] [0,1] [2,3,5] (aj (aj a0 (aj (u2 (u2 (u2 (aj (k2 (aj a1 (AD (f:=iv) a2))) (u2 (u2 (u2 (ag a3 (ag a3 (ag a3 (aj (aj a3 (k2 (aj a1 (AD (f:=iv) a4)))) (ag a3 (ag a3 (ag a3 (u2 (ag a5 (ag a5 (ag a5 (aj (aj a5 (k2 (aj a1 (AD (f:=iv) a6)))) (ag a5 (ag a5 (ag a5 (aj a7 (aj a7 (aj a7 (aj a7 (aj a7 (aj a7 (aj (aj a5 (aj a7 t2)) (al (aj a5 t2))))))))))))))))))))))))))))))) (ak (al (u2 (u2 s2)))))) t6)))))
 (fun a0=>
 .lp [54] [] [] [] [] [0,1] [2,3,6] (aj (aj a0 s2) t6))) (by kernel_rfl)
theorem foS1_ok(n:Ab)(q:Ae)(v0:Int)(o:Dj⊕Ret)(h:EY n q v0=some o):Arr Try.prog Try.f117 0 (Hq n q) IY (Az Try.f117 1) (.rnd (Az Try.f117 1)::AN Try.f117 1) (Hq n q (.l1 v0)) o:=
 Scr.ok h mix (
 .rn 0 [] [] [] [] (al (u2 (u2 (u2 (u2 (al t3)))))) <|
 .br (fun a0=>
 .gu fun a1=>
 .el fun x70 a2=>
 .rn 0 [129] [(70,iv x70)] [] [] (aj a0 (al (u2 (u2 (u2 (aj (k2 (aj a1 (AD (f:=iv) a2))) (u2 s2))))))) <|
 .br (fun a3=>
  .rt [149] [] [] [] [] [] (aj (aj (u2 (u2 (u2 (aj a3 (aj a3 (aj a3 (aj a3 (aj a3 (ag a3 (u2 (k5 (aj t3 (u2 (ak (k5 (al t3)))))))))))))))) (ak s2)) t2))
 (fun a3=>
  .br (fun a4=>
  .rt [148,163] [] [] [] [] [] (aj (aj (u2 (u2 (u2 (ag a3 (ag a3 (ag a3 (ag a3 (aj (aj a3 t3) (ag a3 (u2 (aj a4 (aj a4 (aj a4 (aj a4 (aj a4 (ag a4 (u2 (ak (k5 (al t3)))))))))))))))))))) (ak s2)) t2))
  (fun a4=>
  .gu fun a5=>
  .el fun x85 a6=>
  .br (fun a7=>
   .rt [148,162,177] [(85,bV x85)] [] [] [] [] (aj (aj (u2 (u2 (u2 (ag a3 (ag a3 (ag a3 (ag a3 (aj (aj a3 t3) (ag a3 (u2 (ag a4 (ag a4 (ag a4 (aj (aj a4 (k2 (aj a5 (AD (f:=bV) a6)))) (ag a4 (ag a4 (u2 (aj a7 (aj a7 (aj a7 (aj a7 (aj a7 (aj a7 (al (aj a7 t2))))))))))))))))))))))))) (ak s2)) t2))
  (fun a7=>
   .gu fun a8=>
   .gu fun a9=>
   .gu fun a10=>
   have c0:=GA (List.take (v0.toNat-Int.toNat 0) (List.drop (Int.toNat 0) q.pe)) x70 a10;
   .rn 0 [148,162,176] [(85,bV x85)] [(94,hK c0 [] [])] [] (al (u2 (u2 (u2 (ag a3 (ag a3 (ag a3 (ag a3 (aj (aj a3 t3) (ag a3 (u2 (ag a4 (ag a4 (ag a4 (aj (aj a4 (k2 (aj a5 (AD (f:=bV) a6)))) (ag a4 (ag a4 (u2 (ag a7 (ag a7 (ag a7 (aj (aj a7 (k2 (aj a8 (aj (show(0:Int)<=(0:Int) from(by first | exact nL rfl | decide)) (aj a1 (aj a9 (show iN (List.map (iv) q.pe).length<=iN (List.map (iv) q.pe).length by omega))))))) (ag a7 (aj (aj a7 (ak (k3 (al (show CT Try.prog 26 [] [AV.lst (List.take (v0.toNat-Int.toNat 0) (List.drop (Int.toNat 0) (List.map (iv) q.pe))),iv x70] [] (bV (AB (List.take (v0.toNat-Int.toNat 0) (List.drop (Int.toNat 0) q.pe)) x70)) from CT.eqs (c0) (by first | (simp only[boL,SL,Ts,List.map_take,List.map_drop,List.map_replicate,List.nil_append];done) | (simp only[boL,SL,Ts,List.map_take,List.map_drop,List.map_replicate,List.nil_append];rfl) | (simp[gL,boL,lI,sA,bA];done) | (simp[gL,boL,lI,sA,bA];rfl) | (simp only[Ag,SL,Ts,Su,Sv];rfl)) (by first | (simp only[boL,SL,Ts,List.map_take,List.map_drop,List.map_replicate,List.nil_append];done) | (simp only[boL,SL,Ts,List.map_take,List.map_drop,List.map_replicate,List.nil_append];rfl) | (simp[gL,boL,lI,sA,bA];done) | (simp[gL,boL,lI,sA,bA];rfl) | (simp only[Ag,SL,Ts,Su,Sv];rfl))))))) (al (aj a7 t2)))))))))))))))))))))))))) <|
   .br (fun a11=>
   .rt [148,162,176,191] [] [] [] [] [] (aj (aj a11 s2) t2))
   (fun a11=>
   .lp [148,162,176,190] [] [] [] [] [0,1] [2,3,6] (aj (aj a11 (al (u2 (u2 s2)))) t6))))))
 (fun a0=>
 .rt [128] [] [] [] [] [] (aj (aj a0 s2) t2))) (by kernel_rfl)
theorem fo_ct(n:Ab)(q:Ae)(r:Ret)(h:Ax (foStep n q) (foEn n q) r):CT Try.prog 117 ([]) ([Ag n,sgA q]) r.1 r.2:=
 CT.mach (fn:=Try.f117) (c:=zB Try.f117) (S:=Hq n q) (hd:=IY) Try.func117 (by kernel_rfl) (nL rfl)
  (fun s o ho=>match s,ho with
   | .l0 v0,ho=>foS0_ok n q v0 o ho
   | .l1 v0,ho=>foS1_ok n q v0 o ho
  )
  (fun o ho=>foEn_ok n q o ho) h
inductive EG where
 | l0 (v0:Int) (v1:List Int)
def EZ(n:Ab):EG->St
 | .l0 v0 v1=>St.mk 29 [(2,AV.ptr 0 0 0),(4,AV.ptr 1 0 0),(5,iv v0)] [some (bK [AV.agg [AV.nils,AV.nils,AV.nils]] 3),some (Blk.mk [AV.agg [AV.sl 2 0 (List.replicate (iN (Au n)).toNat false).length,AV.sl 3 0 v1.length,AV.nils]] 3 false true none),some (bK (List.replicate (iN (Au n)).toNat (bV false)) 1),some (bK (List.map (iv) v1) 1)]
def MJ:EG->Nat
 | .l0 _ _=>0
def LY(n:Ab):Option (EG⊕Ret):=
 gu (Rows n.nx) <|
 br (!AY n)
 (some (.inr ([],AV.tup [AV.agg [AV.nils,AV.nils,AV.nils],iV 20])))
 (gu (Aw n) <|
  gu (1 * iN (Au n)<=281474976710656) <|
  gu (iN (Au n)<=9223372036854775807) <|
  gu (8 * iN (Au n)<=281474976710656) <|
  some (.inl (.l0 ((0:Int)) (List.replicate (iN (Au n)).toNat 0))))
def Gp(n:Ab)(v0:Int)(v1:List Int):Option (EG⊕Ret):=
 br (decide (v0<iN v1.length))
 (gu (0<=v0) <|
  gu (v0<iN v1.length) <|
  gu ((0+v0.toNat).succ.le (List.map iV v1).length) <|
  some (.inl (.l0 (i64.wrap (v0+1)) (v1.set (0+v0.toNat) (-1)))))
 (some (.inr ([],AV.tup [AV.agg [AV.lst (List.replicate (iN (Au n)).toNat (bV false)),AV.lst (List.map iV v1),AV.nils],iV 0])))
def r20nStep(n:Ab):EG->Option (EG⊕Ret)
 | .l0 v0 v1=>Gp n v0 v1
theorem Rx(n:Ab)(o:EG⊕Ret)(h:LY n=some o):Arr Try.prog Try.f31 0 (EZ n) MJ (zB Try.f31) [] {n:=Try.f31.ntmps,fr:=AJ 0 ([Ag n]),hp:=([])} o:=
 Scr.ok h mix (
 .rn 0 [] [] [] [] (al (u2 t3)) <|
 .gu fun a0=>
 have c0:=I4 a0;
 .rn 0 [] [] [(7,hK c0 [] [])] [] (al (u2 (aj (ak (aj t9 (al (c0)))) s2))) <|
 .br (fun a1=>
 .rt [17] [] [] [] [] [] (aj (aj a1 (al (ak (aj (k2 n11) t2)))) (al (aj t4 t2))))
 (fun a1=>
 .gu fun a2=>
 .gu fun a3=>
 .gu fun a4=>
 .gu fun a5=>
 have c1:=HQ a2;
 have c2:=HQ a2;
 .lq [16] [] [(11,hK c1 [] []),(14,hK c2 [] [])] [] [] [1,4,2,3] [2,4,5] (up [] [(1,[AV.agg [AV.sl 2 0 (iN (Au n)).toNat,AV.sl 3 0 (iN (Au n)).toNat,AV.nils]]),(3,List.replicate (iN (Au n)).toNat (iv 0))] (EZ n (.l0 ((0:Int)) (List.replicate (iN (Au n)).toNat 0)))) (aj (aj a1 (aj (u2 (aj (ak (aj t9 (al (c1)))) (aj (k2 (aj (show 0<=iN (Au n) by simp) (aj (show iN (Au n)<=iN (Au n) by omega) (aj a3 a4)))) (u2 (aj (ak (aj t9 (al (c2)))) (aj (k2 (aj (show 0<=iN (Au n) by simp) (aj (show iN (Au n)<=iN (Au n) by omega) (aj a5 a4)))) (aj t3 (ak (al (k2 n11)))))))))) s2)) (ak (k3 (aj (al t4) t3)))) (by simp[up,upF,upV,upH,upB,EZ,gL,boL,lI,sA,bA]))) (by kernel_rfl)
theorem PP(n:Ab)(v0:Int)(v1:List Int)(o:EG⊕Ret)(h:Gp n v0 v1=some o):Arr Try.prog Try.f31 0 (EZ n) MJ (Az Try.f31 0) (.rnd (Az Try.f31 0)::AN Try.f31 0) (EZ n (.l0 v0 v1)) o:=
 Scr.ok h mix (
 .rn 0 [] [] [] [] (al (u2 (u2 (u2 (u2 (al t3)))))) <|
 .br (fun a0=>
 .gu fun a1=>
 .gu fun a2=>
 .gu fun a3=>
 .lq [43] [] [] [] [] [0,1,2,3] [2,4,5] (up [] [(1,[AV.agg [AV.sl 2 0 (List.replicate (iN (Au n)).toNat false).length,AV.sl 3 0 v1.length,AV.nils]]),(3,(List.map (iv) v1).set (0+v0.toNat) (iv (-1)))] (EZ n (.l0 (i64.wrap (v0+1)) (v1.set (0+v0.toNat) (-1))))) (aj (aj a0 (aj (u2 (u2 (u2 (aj (k2 (aj a1 a2)) (al (ak a3)))))) (al (u2 (u2 s2))))) (ak (k3 (aj (al t4) t3)))) (by simp[up,upF,upV,upH,upB,EZ,gL,boL,lI,sA,bA]))
 (fun a0=>
 .rt [42] [] [] [] [] [2,3] (aj (aj a0 (al (u2 (aj (k2 n11) t2)))) (al (aj (aj (show(List.replicate (iN (Au n)).toNat false).length=(List.replicate (iN (Au n)).toNat (bV false)).length by simp) (aj (show v1.length=(List.map (iv) v1).length by simp) t2)) t2))))) (by kernel_rfl)
theorem r20n_ct(n:Ab)(r:Ret)(h:Ax (r20nStep n) (LY n) r):CT Try.prog 31 ([]) ([Ag n]) r.1 r.2:=
 CT.mach (fn:=Try.f31) (c:=zB Try.f31) (S:=EZ n) (hd:=MJ) Try.func31 (by kernel_rfl) (nL rfl)
  (fun s o ho=>match s,ho with
   | .l0 v0 v1,ho=>PP n v0 v1 o ho
  )
  (fun o ho=>Rx n o ho) h
inductive Dc where
 | l0 (v0:Int) (v1 v2 v3 v4 v5 v6 v7 v8:Bool)
 | l1 (v0 v1 v2:Int) (v3 v4 v5 v6 v7 v8 v9 v10 v11:Bool)
def Gj(q:Aq):Dc->St
 | .l0 v0 v1 v2 v3 v4 v5 v6 v7 v8=>St.mk 81 [(1,AV.ptr 0 0 0),(3,AV.ptr 1 0 0),(4,iv v0)] [some (bK [AV.agg [AV.lst (List.map (iv) q.ow),AV.lst (gL q.qu)]] 2),some (bK [AV.agg [bV v1,bV v2,bV v3,bV v4,bV v5,bV v6,bV v7,bV v8]] 8)]
 | .l1 v0 v1 v2 v3 v4 v5 v6 v7 v8 v9 v10 v11=>St.mk 81 [(1,AV.ptr 0 0 0),(3,AV.ptr 1 0 0),(4,iv v0),(5,iv v1),(34,AV.ptr 0 0 0),(35,AV.lst (List.map (iv) q.ow)),(36,iv v0),(37,AV.iptr [iv v2]),(38,iv v2),(39,bV v3)] [some (bK [AV.agg [AV.lst (List.map (iv) q.ow),AV.lst (gL q.qu)]] 2),some (bK [AV.agg [bV v4,bV v5,bV v6,bV v7,bV v8,bV v9,bV v10,bV v11]] 8)]
def JF:Dc->Nat
 | .l0 _ _ _ _ _ _ _ _ _=>0
 | .l1 _ _ _ _ _ _ _ _ _ _ _ _=>1
def Mv(q:Aq):Option (Dc⊕Ret):=
 br (decide (48<iN (List.map iV q.ow).length))
 (some (.inr ([],bV false)))
 (br (iN (List.map iV q.ow).length != iN (gL q.qu).length)
  (some (.inr ([],bV false)))
  (some (.inl (.l0 ((0:Int)) (false) (false) (false) (false) (false) (false) (false) (false)))))
def G4(q:Aq)(v0:Int)(v1 v2 v3 v4 v5 v6 v7 v8:Bool):Option (Dc⊕Ret):=
 br (decide (v0<iN (List.map iV q.ow).length))
 (gu (0<=v0) <|
  el (q.ow) (v0.toNat) fun(x30:Int)=>
  br (decide (x30 < -1))
  (some (.inr ([],bV false)))
  (el (q.ow) (v0.toNat) fun(x37:Int)=>
   br (decide (8<=x37))
   (some (.inr ([],bV false)))
   (some (.inl (.l1 v0 ((0:Int)) x37 (decide (8<=x37)) v1 v2 v3 v4 v5 v6 v7 v8)))))
 (some (.inr ([],bV true)))
def Fq(q:Aq)(v0 v1 v2:Int)(v3 v4 v5 v6 v7 v8 v9 v10 v11:Bool):Option (Dc⊕Ret):=
 gu (0<=v0) <|
 el (q.qu) (v0.toNat) fun(x45:List Int)=>
 br (decide (v1<iN (List.map iV x45).length))
 (el (q.qu) (v0.toNat) fun(x54:List Int)=>
  gu (0<=v1) <|
  el x54 (v1.toNat) fun(x57:Int)=>
  br (decide (x57<0))
  (some (.inr ([],bV false)))
  (br (decide (8<=x57))
   (some (.inr ([],bV false)))
   (gu (0<=x57) <|
    gu (x57<8) <|
    el ([v4,v5,v6,v7,v8,v9,v10,v11]) (0+x57.toNat * 1) fun(x68:Bool)=>
    br x68
    (some (.inr ([],bV false)))
    (el (q.ow) (v0.toNat) fun(x75:Int)=>
     br (x57==x75)
     (some (.inr ([],bV false)))
     (gu ((0+x57.toNat * 1+1).le 8) <|
      some (.inl (.l1 v0 (i64.wrap (v1+1)) v2 v3 (bif Nat.beq 0 (0+x57.toNat * 1) then true else v4) (bif Nat.beq 1 (0+x57.toNat * 1) then true else v5) (bif Nat.beq 2 (0+x57.toNat * 1) then true else v6) (bif Nat.beq 3 (0+x57.toNat * 1) then true else v7) (bif Nat.beq 4 (0+x57.toNat * 1) then true else v8) (bif Nat.beq 5 (0+x57.toNat * 1) then true else v9) (bif Nat.beq 6 (0+x57.toNat * 1) then true else v10) (bif Nat.beq 7 (0+x57.toNat * 1) then true else v11))))))))
 (some (.inl (.l0 (i64.wrap (v0+1)) v4 v5 v6 v7 v8 v9 v10 v11)))
def Ki(q:Aq):Dc->Option (Dc⊕Ret)
 | .l0 v0 v1 v2 v3 v4 v5 v6 v7 v8=>G4 q v0 v1 v2 v3 v4 v5 v6 v7 v8
 | .l1 v0 v1 v2 v3 v4 v5 v6 v7 v8 v9 v10 v11=>Fq q v0 v1 v2 v3 v4 v5 v6 v7 v8 v9 v10 v11
theorem rlvEn_ok(q:Aq)(o:Dc⊕Ret)(h:Mv q=some o):Arr Try.prog Try.f91 0 (Gj q) JF (zB Try.f91) [] {n:=Try.f91.ntmps,fr:=AJ 0 ([lkA q]),hp:=([])} o:=
 Scr.ok h mix (
 .rn 0 [] [] [] [] (al (u2 t2)) <|
 .br (fun a0=>
 .rt [23] [] [] [] [] [] (aj (aj (u2 (u2 (u2 (u2 (u2 (aj a0 (aj a0 (aj a0 (aj a0 (aj a0 (aj a0 (aj a0 (al (aj a0 t2)))))))))))))) (ak s2)) t2))
 (fun a0=>
 .rn 0 [22] [] [] [] (al (u2 (u2 (u2 (u2 (u2 (ag a0 (ag a0 (ag a0 (ag a0 (ag a0 (ag a0 (aj (aj a0 t3) (al (aj a0 t2))))))))))))))) <|
 .br (fun a1=>
  .rt [22,39] [] [] [] [] [] (aj (aj a1 s2) t2))
 (fun a1=>
  .lp [22,38] [] [] [] [] [0,1] [1,3,4] (aj (aj a1 (u2 s2)) t6)))) (by kernel_rfl)
theorem rlvS0_ok(q:Aq)(v0:Int)(v1 v2 v3 v4 v5 v6 v7 v8:Bool)(o:Dc⊕Ret)(h:G4 q v0 v1 v2 v3 v4 v5 v6 v7 v8=some o):Arr Try.prog Try.f91 0 (Gj q) JF (Az Try.f91 0) (.rnd (Az Try.f91 0)::AN Try.f91 0) (Gj q (.l0 v0 v1 v2 v3 v4 v5 v6 v7 v8)) o:=
 Scr.ok h mix (
 .rn 0 [] [] [] [] (al (u2 (u2 (u2 (u2 (al t3)))))) <|
 .br (fun a0=>
 .gu fun a1=>
 .el fun x30 a2=>
 .br (fun a3=>
  .rt [49,67] [(30,iv x30)] [] [] [] [] (aj (aj a0 (aj (u2 (u2 (u2 (aj (k2 (aj a1 (AD (f:=iv) a2))) (u2 (u2 (u2 (aj a3 (aj a3 (aj a3 (aj a3 (aj a3 (aj a3 (al (aj a3 t2))))))))))))))) (ak s2))) t2))
 (fun a3=>
  .el fun x37 a4=>
  .rn 0 [49,66] [(30,iv x30),(37,iv x37)] [] [] (aj a0 (al (u2 (u2 (u2 (aj (k2 (aj a1 (AD (f:=iv) a2))) (u2 (u2 (u2 (ag a3 (ag a3 (ag a3 (aj (aj a3 (k2 (aj a1 (AD (f:=iv) a4)))) (ag a3 (ag a3 (al (aj a3 t2))))))))))))))))) <|
  .br (fun a5=>
  .rt [66,81] [] [] [] [] [] (aj (aj a5 s2) t2))
  (fun a5=>
  .lp [66,80] [] [] [] [] [0,1] [1,3,4,5,34,35,36,37,38,39] (aj (aj a5 s2) (ak (k3 t9))))))
 (fun a0=>
 .rt [48] [] [] [] [] [] (aj (aj a0 s2) t2))) (by kernel_rfl)
theorem rlvS1_ok(q:Aq)(v0 v1 v2:Int)(v3 v4 v5 v6 v7 v8 v9 v10 v11:Bool)(o:Dc⊕Ret)(h:Fq q v0 v1 v2 v3 v4 v5 v6 v7 v8 v9 v10 v11=some o):Arr Try.prog Try.f91 0 (Gj q) JF (Az Try.f91 1) (.rnd (Az Try.f91 1)::AN Try.f91 1) (Gj q (.l1 v0 v1 v2 v3 v4 v5 v6 v7 v8 v9 v10 v11)) o:=
 Scr.ok h mix (
 .gu fun a0=>
 .el fun x45 a1=>
 .rn 0 [] [(45,lI x45)] [] [] (al (u2 (u2 (u2 (u2 (aj (k2 (aj a0 (AD (f:=lI) a1))) (u2 (u2 (al t3))))))))) <|
 .br (fun a2=>
 .el fun x54 a3=>
 .gu fun a4=>
 .el fun x57 a5=>
 .rn 0 [97] [(54,lI x54),(57,iv x57)] [] [] (aj a2 (al (u2 (u2 (u2 (aj (k2 (aj a0 (AD (f:=lI) a3))) (u2 (u2 (aj (k2 (aj a4 (AD (f:=iv) a5))) (u2 s2)))))))))) <|
 .br (fun a6=>
  .rt [123] [] [] [] [] [] (aj (aj (u2 (u2 (u2 (aj a6 (aj a6 (ag a6 (u2 (k3 (aj t3 (u2 (k2 (k5 (al t3))))))))))))) (ak s2)) t2))
 (fun a6=>
  .br (fun a7=>
  .rt [122,131] [] [] [] [] [] (aj (aj (u2 (u2 (u2 (ag a6 (ag a6 (ag a6 (u2 (aj a7 (aj a7 (aj a7 (ag a7 (u2 (k2 (k5 (al t3))))))))))))))) (ak s2)) t2))
  (fun a7=>
  .gu fun a8=>
  .gu fun a9=>
  .el fun x68 a10=>
  .br (fun a11=>
   .rt [122,130,141] [(68,AV.tup [bV x68])] [] [] [] [] (aj (aj (u2 (u2 (u2 (ag a6 (ag a6 (ag a6 (u2 (ag a7 (aj (aj a7 (k2 (aj a8 a9))) (aj (aj a7 (ak (AD (f:=bV) a10))) (ag a7 (u2 (aj a11 (aj a11 (aj a11 (aj a11 (aj a11 (aj a11 (aj a11 (al (aj a11 t2))))))))))))))))))))) (ak s2)) t2))
  (fun a11=>
   .el fun x75 a12=>
   .rn 0 [122,130,140] [(68,AV.tup [bV x68]),(75,iv x75)] [] [] (al (u2 (u2 (u2 (ag a6 (ag a6 (ag a6 (u2 (ag a7 (aj (aj a7 (k2 (aj a8 a9))) (aj (aj a7 (ak (AD (f:=bV) a10))) (ag a7 (u2 (ag a11 (ag a11 (ag a11 (ag a11 (aj (aj a11 (k2 (aj a0 (AD (f:=iv) a12)))) (ag a11 (aj (aj a11 t3) (al (aj a11 t2)))))))))))))))))))))) <|
   .br (fun a13=>
   .rt [122,130,140,157] [] [] [] [] [] (aj (aj a13 s2) t2))
   (fun a13=>
   .gu fun a14=>
   .lp [122,130,140,156] [(80,AV.tup [AV.unk])] [] [] [] [0,1] [1,3,4,5,34,35,36,37,38,39] (aj (aj a13 (aj (u2 (aj (k2 (aj a8 a9)) (al (ak a14)))) (al (u2 (u2 s2))))) (ak (k3 t9))))))))
 (fun a2=>
 .lp [96] [] [] [] [] [0,1] [1,3,4] (aj (aj a2 (al (u2 (u2 s2)))) t6))) (by kernel_rfl)
theorem rlv_ct(q:Aq)(r:Ret)(h:Ax (Ki q) (Mv q) r):CT Try.prog 91 ([]) ([lkA q]) r.1 r.2:=
 CT.mach (fn:=Try.f91) (c:=zB Try.f91) (S:=Gj q) (hd:=JF) Try.func91 (by kernel_rfl) (nL rfl)
  (fun s o ho=>match s,ho with
   | .l0 v0 v1 v2 v3 v4 v5 v6 v7 v8,ho=>rlvS0_ok q v0 v1 v2 v3 v4 v5 v6 v7 v8 o ho
   | .l1 v0 v1 v2 v3 v4 v5 v6 v7 v8 v9 v10 v11,ho=>rlvS1_ok q v0 v1 v2 v3 v4 v5 v6 v7 v8 v9 v10 v11 o ho
  )
  (fun o ho=>rlvEn_ok q o ho) h
theorem He{σ ρ:Type}{step:σ->Option (σ⊕ρ)}(L:Nat->σ)(N:Nat)(p:Nat->Bool){rF:Nat->ρ}{r:ρ}
  (hb:∀i,i<N->(∀j,j<i->p j=false)->p i=true->Ax step (some (.inl (L i))) (rF i))
  (hg:∀i x,i<N->(∀j,j<i->p j=false)->p i=false->Ax step (some (.inl (L (i+1)))) x->Ax step (some (.inl (L i))) x)
  (he:fnd p 0 N=none->Ax step (some (.inl (L N))) r):Ax step (some (.inl (L 0))) (match fnd p 0 N with | some i=>rF i | none=>r):=by
 have key:∀k i,i+k=N->(∀j,j<i->p j=false)->fnd p 0 N=fnd p i (N-i)->Ax step (some (.inl (L i))) (match fnd p i (N-i) with | some i=>rF i | none=>r):=by
  intro k
  induction k with
  | zero=>intro i hi _ h0
          have e:i=N:=by omega
          subst e
          rw[C5 (by omega)] at h0 ⊢
          exact he h0
  | succ k ih=>
   intro i hi hj h0
   have hlt:i<N:=by omega
   rw[CN hlt] at h0 ⊢
   cases hp:p i with
   | true=>exact hb i hlt hj hp
   | false=>
    rw[hp] at h0
    refine hg i _ hlt hj hp (ih (i+1) (by omega) (fun j h=>?_) h0)
    rcases Tv j i with h1 | h1
    .exact hj j h1
    .have:j=i:=by omega
     subst this;exact hp
 exact key N 0 (by omega) (fun j h=>absurd h (Nat.not_lt_zero _)) rfl
theorem con_c(l:List Int)(x:Int)(hl:l.length<=9223372036854775807):CT Try.prog 47 [] [lI l,.int .i64 x] [] (.bool (AB l x)):=by
 refine con_ct l x ([],_) ?_
 unfold Mo
 rw[Aa hl,idxZ_has];exact .ret _
theorem Hm{n:Ab}(hv:Aw n):Au n<=48/\n.bs.length<=Au n:=⟨hv.cel.2.2,hv.cel.2.1⟩
theorem IX{α:Type}(l:List α)(i:Nat):List.take ((i:Int).toNat-Int.toNat 0) (List.drop (Int.toNat 0) l)=l.take i:=by
 rw[SH];simp
theorem K5{nb:Nat}{s:Ae}{i:Nat}(hi:i<=s.pe.length)(hbd:∀j,j<i->bdP nb s j=false):i<=nb:=by
 unfold bdP at hbd
 simp only[Bool.or_eq_false_iff,decide_eq_false_iff_not] at hbd
 have hn:(s.pe.take i).Nodup:=Kz fun j h=>by
  rw[S0] at h
  have e:(s.pe.take i).getD j 0=s.pe.getD j 0:=by rw[Sz,SQ,Sw (by omega),<-Sz]
  rw[e,List.take_take,Nat.min_eq_left (by omega)]
  exact(hbd j (by omega)).2.2.2
 have:=Iz hn (d:=(List.range nb).map fun i:Nat=>(i:Int)) fun x hx=>by
  obtain⟨j,hj,rfl⟩:=Ta.1 hx
  rw[S0] at hj
  have:=hbd j (by omega)
  rw[Sz,Sy (show j<s.pe.length by omega)] at this
  simp only[Option.getD_some] at this
  rw[List.getElem_take]
  exact Mm (by omega) (by omega)
 rw[SB,Tg,S0] at this
 omega
theorem fo_c{n:Ab}(s:Ae)(hv:Aw n):CT Try.prog 117 [] [Ag n,sgA s] [] (.bool (F2 n s)):=by
 refine fo_ct n s ([],_) ?_
 obtain⟨h48,hnb⟩:=Hm hv
 unfold foEn F2
 rw[Aa hv,Ct,SB]
 by_cases h1:s.cl.length=Au n
 case neg=>rw[Am (Tl.2 (by simp only[iN];omega)),Ar h1];exact .ret _
 rw[Ai (by rw[h1];simp),AE h1,Bool.true_and]
 by_cases h2:s.bw.length=Au n
 case neg=>rw[Am (Tl.2 (by simp only[iN];omega)),Ar h2];exact .ret _
 rw[Ai (by rw[h1,h2];simp),AE h2,Bool.true_and]
 refine(He (fun i=>Dj.l0 (i:Int)) s.bw.length (bdW s) (rF:=fun _=>([],.bool false)) (r:=([],.bool (fnd (bdP n.bs.length s) 0 s.pe.length).isNone)) (fun i hi _ hp=>?_) (fun i x hi _ hp hx=>?_) (fun _=>?_)).res (by cases fnd (bdW s) 0 s.bw.length<;>rfl)
 .refine .to (show Fh n s i=_ from ?_) (.ret _)
  unfold Fh
  unfold bdW at hp
  rw[B1 0 hi]
  cases hd1:decide (s.bw.getD i 0 < -1) with
  | true=>rw[Am rfl]
  | false=>
   rw[hd1,Sr] at hp
   rw[Ai rfl,elG 0 hi]
   cases hd2:decide (8<=s.bw.getD i 0) with
   | true=>rw[Am rfl]
   | false=>
    rw[hd2,Sr,SG] at hp
    rw[Ai rfl,elG 0 hi,Am (by have:=of_decide_eq_true hp.1;exact Tl.2 (by omega)),elG true (show i<s.cl.length by omega),Am hp.2]
 .refine .to (show Fh n s i=_ from ?_) hx
  unfold Fh
  unfold bdW at hp
  simp only[Bool.or_eq_false_iff] at hp
  rw[B1 0 hi,Ai hp.1,elG 0 hi,Ai hp.2.1,elG 0 hi,zW i (by omega)]
  have h3:=of_decide_eq_false hp.1
  by_cases hm:s.bw.getD i 0 = -1
  .rw[Ai (by rw[hm];rfl)]
  .rw[Am (Tl.2 hm),elG true (show i<s.cl.length by omega)]
   have hq:=hp.2.2
   rw[AE (show 0<=s.bw.getD i 0 by omega),Bool.true_and] at hq
   rw[Ai hq]
 .refine .to (show Fh n s s.bw.length=_ from ?_) ?_ (y:=some (.inl (.l1 ((0:Nat):Int))))
  .unfold Fh;rw[Dm];rfl
  refine(He (fun i=>Dj.l1 (i:Int)) s.pe.length (bdP n.bs.length s) (rF:=fun _=>([],.bool false)) (r:=([],.bool true)) (fun i hi hj hp=>?_) (fun i x hi hj hp hx=>?_) (fun _=>?_)).res (by cases fnd (bdP n.bs.length s) 0 s.pe.length<;>rfl)
  .have hi24:=K5 (Nat.le_of_lt hi) hj
   refine .to (show EY n s i=_ from ?_) (.ret _)
   unfold EY
   unfold bdP at hp
   rw[B1 0 hi]
   by_cases hd1:s.pe.getD i 0<0
   .rw[Am (AE hd1)]
   rw[Ar hd1,Sr] at hp
   rw[Ai (Ar hd1)]
   by_cases hd2:(n.bs.length:Int)<=s.pe.getD i 0
   .rw[Am (AE (by rw[SB];exact hd2))]
   rw[Ar hd2,Sr] at hp
   rw[Ai (Ar (by rw[SB];exact hd2)),Aa (by omega),AU (Bb true (show(s.pe.getD i 0).toNat<s.cl.length by omega))]
   cases hd3:s.cl.getD (s.pe.getD i 0).toNat true with
   | true=>rw[Am rfl]
   | false=>
    rw[hd3,Sr] at hp
    rw[Ai rfl,Aa (BV _),Aa (by simp only[iN,SB];omega),IX,Aa (by rw[S0];omega),Am hp]
  .have hi24:=K5 (Nat.le_of_lt hi) hj
   refine .to (show EY n s i=_ from ?_) hx
   unfold EY
   unfold bdP at hp
   simp only[Bool.or_eq_false_iff,decide_eq_false_iff_not] at hp
   rw[B1 0 hi,Ai (Ar hp.1),Ai (Ar (by rw[SB];exact hp.2.1)),Aa (by omega),AU (Bb true (show(s.pe.getD i 0).toNat<s.cl.length by omega)),Ai hp.2.2.1,Aa (BV _),Aa (by simp only[iN,SB];omega),IX,Aa (by rw[S0];omega),Ai hp.2.2.2,zW i (by omega)]
  .refine .to (show EY n s s.pe.length=_ from ?_) (.ret _)
   unfold EY;rw[Dm]
def prL(l:Aq)(c k:Nat):List Int:=(l.qu.take c).flatten++(l.qu.getD c []).take k
def bdO(l:Aq)(c:Nat):Bool:=decide (l.ow.getD c 0 < -1)||decide (8<=l.ow.getD c 0)
def bdQ(l:Aq)(c k:Nat):Bool:=decide ((l.qu.getD c []).getD k 0<0)||(decide (8<=(l.qu.getD c []).getD k 0)||(AB (prL l c k) ((l.qu.getD c []).getD k 0)||(l.qu.getD c []).getD k 0==l.ow.getD c 0))
def bdR(l:Aq)(c:Nat):Bool:=bdO l c||(fnd (bdQ l c) 0 (l.qu.getD c []).length).isSome
def C3(l:Aq):Bool:=decide (l.ow.length<=48)&&(decide (l.ow.length=l.qu.length)&&(fnd (bdR l) 0 l.qu.length).isNone)
theorem Pj{l:Aq}(h:C3 l=true):l.ow.length=l.qu.length/\l.ow.length<=48:=by
 unfold C3 at h
 simp only[SG,decide_eq_true_eq] at h
 exact⟨h.2.1,h.1⟩
theorem Fc{l:List Int}{x:Int}(h0:0<=x)(i:Nat):(bif Nat.beq i (0+x.toNat * 1) then true else AB l (i:Int))=AB (l++[x]) (i:Int):=by
 rw[beqM,Bool.eq_iff_iff,DH,S2,Sn]
 split
 .exact⟨fun _=>.inr (by omega),fun _=>rfl⟩
 .rw[DH];exact⟨.inl,fun h=>h.elim id fun e=>absurd e (by omega)⟩
theorem prL_succ{l:Aq}{c k:Nat}(h:k<(l.qu.getD c []).length):prL l c (k+1)=prL l c k++[(l.qu.getD c []).getD k 0]:=by
 unfold prL
 rw[List.take_add_one,Bb 0 h,List.append_assoc];rfl
theorem prL_next{l:Aq}{c:Nat}:prL l c (l.qu.getD c []).length=prL l (c+1) 0:=by
 unfold prL
 rw[List.take_length,List.take_zero,List.append_nil,List.take_add_one,List.flatten_append,Sz]
 cases l.qu[c]?<;>simp
theorem get8{α:Type}{f:Nat->Bool}{k:Nat}(h:k<8){F:Bool->Option α}:el [f 0,f 1,f 2,f 3,f 4,f 5,f 6,f 7] (0+k * 1) F=F (f k):=by
 have e:[f 0,f 1,f 2,f 3,f 4,f 5,f 6,f 7]=(List.range 8).map f:=rfl
 rw[e,SN,Nat.mul_one]
 exact AU (by rw[SI,SV h];rfl)
theorem le8{x:Int}(h0:0<=x)(h1:x<8):(0+x.toNat * 1+1).le 8:=show 0+x.toNat * 1+1<=8 by omega
theorem Le{l:Aq}{c k:Nat}(h:bdQ l c k=false):0<=(l.qu.getD c []).getD k 0/\(l.qu.getD c []).getD k 0<8/\AB (prL l c k) ((l.qu.getD c []).getD k 0)=false/\((l.qu.getD c []).getD k 0==l.ow.getD c 0)=false:=by
 unfold bdQ at h
 simp only[Bool.or_eq_false_iff,decide_eq_false_iff_not] at h
 exact⟨by omega,by omega,h.2.2.1,h.2.2.2⟩
theorem row8{l:Aq}{c k:Nat}(hk:k<=(l.qu.getD c []).length)(h:∀j,j<k->bdQ l c j=false):k<=8:=by
 have hn:((l.qu.getD c []).take k).Nodup:=Kz fun j hj=>by
  rw[S0] at hj
  have e:((l.qu.getD c []).take k).getD j 0=(l.qu.getD c []).getD j 0:=by rw[Sz,SQ,Sw (by omega),<-Sz]
  rw[e,List.take_take,Nat.min_eq_left (by omega)]
  have:=(Le (h j (by omega))).2.2.1
  cases h2:AB ((l.qu.getD c []).take j) ((l.qu.getD c []).getD j 0) with
  | false=>rfl
  | true=>exact absurd (S2.2 (.inr (DH.1 h2))) (JG this)
 have:=Iz hn (d:=(List.range 8).map fun i:Nat=>(i:Int)) fun x hx=>by
  obtain⟨j,hj,rfl⟩:=Ta.1 hx
  rw[S0] at hj
  have:=Le (h j (by omega))
  rw[Sz,Sy (show j<(l.qu.getD c []).length by omega)] at this
  simp only[Option.getD_some] at this
  rw[List.getElem_take]
  exact Mm (by omega) (by omega)
 rw[SB,Tg,S0] at this
 omega
def HL(l:Aq)(c:Nat):Dc:=let f:=fun i:Nat=>AB (prL l c 0) (i:Int);.l0 (c:Int) (f 0) (f 1) (f 2) (f 3) (f 4) (f 5) (f 6) (f 7)
def Ie(l:Aq)(c k:Nat):Dc:=let f:=fun i:Nat=>AB (prL l c k) (i:Int);.l1 (c:Int) (k:Int) (l.ow.getD c 0) (decide (8<=l.ow.getD c 0)) (f 0) (f 1) (f 2) (f 3) (f 4) (f 5) (f 6) (f 7)
theorem NF{l:Aq}{c:Nat}(hc:c<l.qu.length)(ho:l.ow.length=l.qu.length)(h48:l.ow.length<=48){x:Ret}(hx:fnd (bdQ l c) 0 (l.qu.getD c []).length=none->Ax (Ki l) (some (.inl (HL l (c+1)))) x):
  Ax (Ki l) (some (.inl (Ie l c 0))) (match fnd (bdQ l c) 0 (l.qu.getD c []).length with | some _=>([],.bool false) | none=>x):=by
 refine(He (fun k=>Ie l c k) (l.qu.getD c []).length (bdQ l c) (rF:=fun _=>(([],.bool false):Ret)) (r:=x) (fun k hk hj hp=>?_) (fun k x hk hj hp hx=>?_) (fun hn=>?_)).res (by cases fnd (bdQ l c) 0 (l.qu.getD c []).length<;>rfl)
 .have h8:=row8 (Nat.le_of_lt hk) hj
  refine .to (show Fq l c k (l.ow.getD c 0) (decide (8<=l.ow.getD c 0)) (AB (prL l c k) ((0:Nat):Int)) (AB (prL l c k) ((1:Nat):Int)) (AB (prL l c k) ((2:Nat):Int)) (AB (prL l c k) ((3:Nat):Int)) (AB (prL l c k) ((4:Nat):Int)) (AB (prL l c k) ((5:Nat):Int)) (AB (prL l c k) ((6:Nat):Int)) (AB (prL l c k) ((7:Nat):Int))=_ from ?_) (.ret _)
  unfold Fq
  unfold bdQ at hp
  rw[Aa (by omega),elG [] hc,Am (AE (by simp only[iN,SB];omega)),elG [] hc,Aa (by omega),elG 0 hk]
  by_cases h0:(l.qu.getD c []).getD k 0<0
  .rw[Am (AE h0)]
  by_cases h1:8<=(l.qu.getD c []).getD k 0
  .rw[Ai (Ar h0),Am (AE h1)]
  rw[Ar h0,Ar h1,Sr,Sr] at hp
  rw[Ai (Ar h0),Ai (Ar h1),Aa (by omega),Aa (by omega),get8 (f:=fun i:Nat=>AB (prL l c k) (i:Int)) (by omega),SZ (by omega)]
  cases h2:AB (prL l c k) ((l.qu.getD c []).getD k 0) with
  | true=>rw[Am rfl]
  | false=>
   rw[h2,Sr] at hp
   rw[Ai rfl,elG 0 (show c<l.ow.length by omega),Am hp]
 .have h8:=row8 (Nat.le_of_lt hk) hj
  obtain⟨a1,a2,a3,a4⟩:=Le hp
  refine .to (show Fq l c k (l.ow.getD c 0) (decide (8<=l.ow.getD c 0)) (AB (prL l c k) ((0:Nat):Int)) (AB (prL l c k) ((1:Nat):Int)) (AB (prL l c k) ((2:Nat):Int)) (AB (prL l c k) ((3:Nat):Int)) (AB (prL l c k) ((4:Nat):Int)) (AB (prL l c k) ((5:Nat):Int)) (AB (prL l c k) ((6:Nat):Int)) (AB (prL l c k) ((7:Nat):Int))=some (.inl (Ie l c (k+1))) from ?_) hx
  unfold Fq Ie
  rw[Aa (by omega),elG [] hc,Am (AE (by simp only[iN,SB];omega)),elG [] hc,Aa (by omega),elG 0 hk,Ai (Ar (by omega)),Ai (Ar (by omega)),Aa a1,Aa a2,get8 (f:=fun i:Nat=>AB (prL l c k) (i:Int)) (by omega),SZ a1,a3,Ai rfl,elG 0 (show c<l.ow.length by omega),Ai a4,Aa (le8 a1 a2),zW k (by omega),Fc a1,Fc a1,Fc a1,Fc a1,Fc a1,Fc a1,Fc a1,Fc a1,prL_succ hk]
 .refine .to (show Fq l c ((l.qu.getD c []).length:Nat) _ _ _ _ _ _ _ _ _ _=some (.inl (HL l (c+1))) from ?_) (hx hn)
  unfold Fq HL
  rw[Aa (by omega),elG [] hc,SB,Ai (Ar (by simp only[iN];omega)),zW c (by omega),prL_next]
theorem rlv_c(l:Aq):CT Try.prog 91 [] [lkA l] [] (.bool (C3 l)):=by
 refine rlv_ct l ([],_) ?_
 unfold Mv C3
 rw[SB,BJ]
 by_cases h1:l.ow.length<=48
 case neg=>rw[Am (AE (by simp only[iN];omega)),Ar h1];exact .ret _
 rw[Ai (Ar (by simp only[iN];omega)),AE h1,Bool.true_and]
 by_cases h2:l.ow.length=l.qu.length
 case neg=>rw[Am (Tl.2 (by simp only[iN];omega)),Ar h2];exact .ret _
 rw[Ai (by rw[h2];simp),AE h2,Bool.true_and]
 refine Ax.res (r:=match fnd (bdR l) 0 l.qu.length with | some _=>(([],.bool false):Ret) | none=>(([],.bool true):Ret)) ?_ (by cases fnd (bdR l) 0 l.qu.length<;>rfl)
 have st:∀c,c<l.qu.length->Ki l (HL l c)=br (bdO l c) (some (.inr ([],.bool false))) (some (.inl (Ie l c 0))):=fun c hc=>by
  show G4 l c _ _ _ _ _ _ _ _=_
  unfold G4
  rw[B1 0 (show c<l.ow.length by omega)]
  unfold bdO
  cases decide (l.ow.getD c 0 < -1) with
  | true=>rfl
  | false=>
   rw[Ai rfl,elG 0 (show c<l.ow.length by omega),Sr]
   rfl
 refine(He (fun c=>HL l c) l.qu.length (bdR l) (rF:=fun _=>(([],.bool false):Ret)) (r:=(([],.bool true):Ret)) (fun c hc _ hp=>?_) (fun c x hc _ hp hx=>?_) (fun _=>?_)).res (by cases fnd (bdR l) 0 l.qu.length<;>rfl)
 .refine .to (st c hc) ?_
  unfold bdR at hp
  cases ho:bdO l c with
  | true=>exact .ret _
  | false=>
   rw[ho,Sr] at hp
   rw[Ai rfl]
   refine(NF hc h2 h1 (x:=(([],.bool false):Ret)) fun e=>by rw[e] at hp;cases hp).res ?_
   cases fnd (bdQ l c) 0 (l.qu.getD c []).length<;>rfl
 .refine .to (st c hc) ?_
  unfold bdR at hp
  rw[Bool.or_eq_false_iff] at hp
  rw[Ai hp.1]
  have:=NF hc h2 h1 (x:=x) fun _=>hx
  cases hf:fnd (bdQ l c) 0 (l.qu.getD c []).length with
  | none=>rw[hf] at this;exact this
  | some i=>rw[hf] at hp;cases hp.2
 .refine .to (show G4 l (l.qu.length:Nat) _ _ _ _ _ _ _ _=_ from ?_) (.ret _)
  unfold G4
  rw[Ai (Ar (by simp only[iN,SB];omega))]
end Go.Proofs.Ytedjkebooffjpaa

/- Parts of the proof:Ra1m,AxRw,AxNd,RaA,Ra2m,RaB,Ra3m,RaC,Ra6m,RaF,Ra7m,RaG,Ra8m,RaH,Ra9m,RaI,Ra10m,RaJ,Ra11m,RaK. -/
import Derived.Test.YtifigemlifbkcaaProg
import Derived.KernelRfl
import Derived.Test.YtifigemlifbkcaaRadioLivesM6
noncomputable section
set_option linter.unusedVariables false
set_option linter.unusedSimpArgs false
open Go Go.AX Go.Proofs
set_option maxRecDepth 100000
set_option maxHeartbeats 4000000
set_option linter.unusedVariables false
set_option linter.unusedSimpArgs false
open Go.IntKind (i64 u64)
namespace Go.Proofs.Ytifigemlifbkcaa
structure SeD where
 q:Int
 o:Bool
 c:Int
 f:Int
deriving DecidableEq
def seA(x:SeD):AV:=.agg [.int .u64 x.q,.bool x.o,.int .i64 x.c,.int .i64 x.f]
def claSt(l:List FrD):Empty->St
 | x=>x.elim
def claHd:Empty->Nat
 | x=>x.elim
def JW(l:List FrD):Option (Empty⊕Ret):=
 gu (List.map frA l=[]->False) <|
 gu (∀(e:AV),e∈List.map frA l->e.cells.length=5) <|
 gu (0+(List.map frA l).length<=9223372036854775807) <|
 gu ((0+(List.map frA l).length) * 40<=140737488355328) <|
 some (.inr ([],AV.lst ([]++List.map frA l)))
def claStep(l:List FrD):Empty->Option (Empty⊕Ret)
 | x=>x.elim
theorem claEn_ok(l:List FrD)(o:Empty⊕Ret)(h:JW l=some o):Arr Try.prog Try.f69 0 (claSt l) claHd (zB Try.f69) [] {n:=Try.f69.ntmps,fr:=An 0 ([.lst (l.map frA)]),hp:=([])} o:=
 Scr.ok h mix (
 .rn 0 [] [] [] [] s2 <|
 .gu fun a0=>
 .rn 0 [] [] [] [] (al (u2 (al (ak a0)))) <|
 .gu fun a1=>
 .gu fun a2=>
 .gu fun a3=>
 .rt [] [] [] [] [] [1] (aj (ak (al (ak (u2 (aj (k2 (aj (show nat_lit 0=nat_lit 0 from rfl) (aj a1 (aj a2 a3)))) s2))))) (al (show 0+(List.map frA l).length=([]++List.map frA l).length by simp)))) (by kernel_rfl)
theorem cla_ct(l:List FrD)(r:Ret)(h:Aj (claStep l) (JW l) r):CT Try.prog 69 ([]) ([.lst (l.map frA)]) r.1 r.2:=
 CT.mach (fn:=Try.f69) (c:=zB Try.f69) (S:=claSt l) (hd:=claHd) Try.func69 (by kernel_rfl) (nL rfl)
  (fun s o ho=>match s,ho with
   | x,_=>x.elim)
  (fun o ho=>claEn_ok l o ho) h
def cliSt(l:List Int):Empty->St
 | x=>x.elim
def cliHd:Empty->Nat
 | x=>x.elim
def KM(l:List Int):Option (Empty⊕Ret):=
 gu (List.map iV l=[]->False) <|
 gu (∀(e:AV),e∈List.map iV l->e.cells.length=1) <|
 gu (0+(List.map iV l).length<=9223372036854775807) <|
 gu ((0+(List.map iV l).length) * 8<=140737488355328) <|
 some (.inr ([],AV.lst ([]++List.map iV l)))
def cliStep(l:List Int):Empty->Option (Empty⊕Ret)
 | x=>x.elim
theorem cliEn_ok(l:List Int)(o:Empty⊕Ret)(h:KM l=some o):Arr Try.prog Try.f70 0 (cliSt l) cliHd (zB Try.f70) [] {n:=Try.f70.ntmps,fr:=An 0 ([lI l]),hp:=([])} o:=
 Scr.ok h mix (
 .rn 0 [] [] [] [] s2 <|
 .gu fun a0=>
 .rn 0 [] [] [] [] (al (u2 (al (ak a0)))) <|
 .gu fun a1=>
 .gu fun a2=>
 .gu fun a3=>
 .rt [] [] [] [] [] [1] (aj (ak (al (ak (u2 (aj (k2 (aj (show nat_lit 0=nat_lit 0 from rfl) (aj a1 (aj a2 a3)))) s2))))) (al (show 0+(List.map (iv) l).length=([]++List.map (iv) l).length by simp)))) (by kernel_rfl)
theorem cli_ct(l:List Int)(r:Ret)(h:Aj (cliStep l) (KM l) r):CT Try.prog 70 ([]) ([lI l]) r.1 r.2:=
 CT.mach (fn:=Try.f70) (c:=zB Try.f70) (S:=cliSt l) (hd:=cliHd) Try.func70 (by kernel_rfl) (nL rfl)
  (fun s o ho=>match s,ho with
   | x,_=>x.elim)
  (fun o ho=>cliEn_ok l o ho) h
def chsSt(l:List FrD)(q:Int):Empty->St
 | x=>x.elim
def chsHd:Empty->Nat
 | x=>x.elim
def KE(l:List FrD)(q:Int):Option (Empty⊕Ret):=
 br (decide (iN (List.map frA l).length<=6))
 (br (decide (0<=q))
  (some (.inr ([],bV (decide (q<iN (List.map frA l).length)))))
  (some (.inr ([],bV false))))
 (some (.inr ([],bV false)))
def chsStep(l:List FrD)(q:Int):Empty->Option (Empty⊕Ret)
 | x=>x.elim
theorem chsEn_ok(l:List FrD)(q:Int)(o:Empty⊕Ret)(h:KE l q=some o):Arr Try.prog Try.f103 0 (chsSt l q) chsHd (zB Try.f103) [] {n:=Try.f103.ntmps,fr:=An 0 ([.lst (l.map frA),.int .i64 q]),hp:=([])} o:=
 Scr.ok h mix (
 .rn 0 [] [] [] [] s2 <|
 .br (fun a0=>
 .br (fun a1=>
  .rt [17,25] [] [] [] [] [] (aj (al (u2 (u2 (u2 (u2 (ag a0 (ag a0 (ag a0 (u2 (ag a1 (ag a1 (ag a1 (aj (aj a1 t3) (ag a1 s2)))))))))))))) t2))
 (fun a1=>
  .rt [17,24] [] [] [] [] [] (aj (al (u2 (u2 (u2 (u2 (ag a0 (ag a0 (ag a0 (u2 (aj a1 (aj a1 (aj a1 (aj a1 (ag a1 s2)))))))))))))) t2)))
 (fun a0=>
 .rt [16] [] [] [] [] [] (aj (al (u2 (u2 (u2 (u2 (aj a0 (aj a0 (ag a0 (u2 (ak (k3 (aj t3 s2)))))))))))) t2))) (by kernel_rfl)
theorem chs_ct(l:List FrD)(q:Int)(r:Ret)(h:Aj (chsStep l q) (KE l q) r):CT Try.prog 103 ([]) ([.lst (l.map frA),.int .i64 q]) r.1 r.2:=
 CT.mach (fn:=Try.f103) (c:=zB Try.f103) (S:=chsSt l q) (hd:=chsHd) Try.func103 (by kernel_rfl) (nL rfl)
  (fun s o ho=>match s,ho with
   | x,_=>x.elim)
  (fun o ho=>chsEn_ok l q o ho) h
def rhsSt(l:List FrD)(q:Int):Empty->St
 | x=>x.elim
def rhsHd:Empty->Nat
 | x=>x.elim
def JS(l:List FrD)(q:Int):Option (Empty⊕Ret):=
 br (decide (iN (List.map frA l).length<=6))
 (br (decide (0<=q))
  (some (.inr ([],bV (decide (q<iN (List.map frA l).length)))))
  (some (.inr ([],bV false))))
 (some (.inr ([],bV false)))
def rhsStep(l:List FrD)(q:Int):Empty->Option (Empty⊕Ret)
 | x=>x.elim
theorem rhsEn_ok(l:List FrD)(q:Int)(o:Empty⊕Ret)(h:JS l q=some o):Arr Try.prog Try.f106 0 (rhsSt l q) rhsHd (zB Try.f106) [] {n:=Try.f106.ntmps,fr:=An 0 ([.lst (l.map frA),.int .i64 q]),hp:=([])} o:=
 Scr.ok h mix (
 .rn 0 [] [] [] [] s2 <|
 .br (fun a0=>
 .br (fun a1=>
  .rt [17,25] [] [] [] [] [] (aj (al (u2 (u2 (u2 (u2 (ag a0 (ag a0 (ag a0 (u2 (ag a1 (ag a1 (ag a1 (aj (aj a1 t3) (ag a1 s2)))))))))))))) t2))
 (fun a1=>
  .rt [17,24] [] [] [] [] [] (aj (al (u2 (u2 (u2 (u2 (ag a0 (ag a0 (ag a0 (u2 (aj a1 (aj a1 (aj a1 (aj a1 (ag a1 s2)))))))))))))) t2)))
 (fun a0=>
 .rt [16] [] [] [] [] [] (aj (al (u2 (u2 (u2 (u2 (aj a0 (aj a0 (ag a0 (u2 (ak (k3 (aj t3 s2)))))))))))) t2))) (by kernel_rfl)
theorem rhs_ct(l:List FrD)(q:Int)(r:Ret)(h:Aj (rhsStep l q) (JS l q) r):CT Try.prog 106 ([]) ([.lst (l.map frA),.int .i64 q]) r.1 r.2:=
 CT.mach (fn:=Try.f106) (c:=zB Try.f106) (S:=rhsSt l q) (hd:=rhsHd) Try.func106 (by kernel_rfl) (nL rfl)
  (fun s o ho=>match s,ho with
   | x,_=>x.elim)
  (fun o ho=>rhsEn_ok l q o ho) h
def ofrSt(x:SeD)(q w:Int):Empty->St
 | x=>x.elim
def ofrHd:Empty->Nat
 | x=>x.elim
def Kk(x:SeD)(q w:Int):Option (Empty⊕Ret):=
 br (decide (q<0))
 (some (.inr ([],AV.tup [AV.agg [uV 0,bV false,iV 0,iV 0],iV 19])))
 (br (decide (48<=q))
  (some (.inr ([],AV.tup [AV.agg [uV 0,bV false,iV 0,iV 0],iV 19])))
  (br (decide (w<0))
   (some (.inr ([],AV.tup [AV.agg [uV 0,bV false,iV 0,iV 0],iV 19])))
   (br (decide (1<w))
    (some (.inr ([],AV.tup [AV.agg [uV 0,bV false,iV 0,iV 0],iV 19])))
    (br (x.o)
     (some (.inr ([],AV.tup [AV.agg [uV 0,bV false,iV 0,iV 0],iV 23])))
     (br (x.q==18446744073709551615)
      (some (.inr ([],AV.tup [AV.agg [uV 0,bV false,iV 0,iV 0],iV 25])))
      (some (.inr ([],AV.tup [AV.agg [uV (u64.wrap (x.q+1)),bV true,iV q,iV w],iV 0]))))))))
def ofrStep(x:SeD)(q w:Int):Empty->Option (Empty⊕Ret)
 | x=>x.elim
theorem ofrEn_ok(x:SeD)(q w:Int)(o:Empty⊕Ret)(h:Kk x q w=some o):Arr Try.prog Try.f51 0 (ofrSt x q w) ofrHd (zB Try.f51) [] {n:=Try.f51.ntmps,fr:=An 0 ([seA x,.int .i64 q,.int .i64 w]),hp:=([])} o:=
 Scr.ok h mix (
 .rn 0 [] [] [] [] (al (u2 t3)) <|
 .br (fun a0=>
 .rt [23] [] [] [] [] [] (aj (aj (u2 (u2 (u2 (aj a0 (aj a0 (ag a0 (u2 (k2 (aj t3 (u2 (k2 (aj t3 s2)))))))))))) (ak (al (ak (aj (k2 n11) t2))))) (al (aj t5 t2))))
 (fun a0=>
 .br (fun a1=>
  .rt [22,31] [] [] [] [] [] (aj (aj (u2 (u2 (u2 (ag a0 (ag a0 (ag a0 (u2 (aj a1 (aj a1 (ag a1 (u2 (k2 (aj t3 s2))))))))))))) (ak (al (ak (aj (k2 n11) t2))))) (al (aj t5 t2))))
 (fun a1=>
  .br (fun a2=>
  .rt [22,30,39] [] [] [] [] [] (aj (aj (u2 (u2 (u2 (ag a0 (ag a0 (ag a0 (u2 (ag a1 (ag a1 (ag a1 (u2 (aj a2 (aj a2 (ag a2 s2)))))))))))))) (ak (al (ak (aj (k2 n11) t2))))) (al (aj t5 t2))))
  (fun a2=>
  .rn 0 [22,30,38] [] [] [] (al (u2 (u2 (u2 (ag a0 (ag a0 (ag a0 (u2 (ag a1 (ag a1 (ag a1 (u2 (ag a2 (ag a2 (ag a2 s2))))))))))))))) <|
  .br (fun a3=>
   .rt [22,30,38,17] [] [] [] [] [] (aj (aj a3 (al (ak (aj (k2 n11) t2)))) (al (aj t5 t2))))
  (fun a3=>
   .rn 0 [22,30,38,16] [] [] [] (aj a3 (al (u2 (u2 s2)))) <|
   .br (fun a4=>
   .rt [22,30,38,49] [] [] [] [] [] (aj (aj a4 (al (ak (aj (k2 n11) t2)))) (al (aj t5 t2))))
   (fun a4=>
   .rn 0 [22,30,38,48] [] [] [] (aj a4 (al (u2 (u2 (u2 s2))))) <|
   .br (fun a5=>
    .rt [22,30,38,57] [] [] [] [] [] (aj (aj a5 (al (ak (aj (k2 n11) t2)))) (al (aj t5 t2))))
   (fun a5=>
    .rt [22,30,38,56] [] [] [] [] [] (aj (aj a5 (al (u2 (u2 (u2 (u2 (u2 (aj t4 (aj (k2 n11) t2))))))))) (al (aj t5 t2)))))))))) (by kernel_rfl)
theorem ofr_ct(x:SeD)(q w:Int)(r:Ret)(h:Aj (ofrStep x q w) (Kk x q w) r):CT Try.prog 51 ([]) ([seA x,.int .i64 q,.int .i64 w]) r.1 r.2:=
 CT.mach (fn:=Try.f51) (c:=zB Try.f51) (S:=ofrSt x q w) (hd:=ofrHd) Try.func51 (by kernel_rfl) (nL rfl)
  (fun s o ho=>match s,ho with
   | x,_=>x.elim)
  (fun o ho=>ofrEn_ok x q w o ho) h
def rofSt(x:SeD)(q w:Int):Empty->St
 | x=>x.elim
def rofHd:Empty->Nat
 | x=>x.elim
def JO(x:SeD)(q w:Int):Option (Empty⊕Ret):=
 br (decide (q<0))
 (some (.inr ([],AV.tup [AV.agg [uV 0,bV false,iV 0,iV 0],iV 19])))
 (br (decide (48<=q))
  (some (.inr ([],AV.tup [AV.agg [uV 0,bV false,iV 0,iV 0],iV 19])))
  (br (decide (w<0))
   (some (.inr ([],AV.tup [AV.agg [uV 0,bV false,iV 0,iV 0],iV 19])))
   (br (decide (1<w))
    (some (.inr ([],AV.tup [AV.agg [uV 0,bV false,iV 0,iV 0],iV 19])))
    (br (x.o)
     (some (.inr ([],AV.tup [AV.agg [uV 0,bV false,iV 0,iV 0],iV 23])))
     (br (u64.wrap (x.q+1)==0)
      (some (.inr ([],AV.tup [AV.agg [uV 0,bV false,iV 0,iV 0],iV 25])))
      (some (.inr ([],AV.tup [AV.agg [uV (u64.wrap (x.q+1)),bV true,iV q,iV w],iV 0]))))))))
def rofStep(x:SeD)(q w:Int):Empty->Option (Empty⊕Ret)
 | x=>x.elim
theorem rofEn_ok(x:SeD)(q w:Int)(o:Empty⊕Ret)(h:JO x q w=some o):Arr Try.prog Try.f74 0 (rofSt x q w) rofHd (zB Try.f74) [] {n:=Try.f74.ntmps,fr:=An 0 ([seA x,.int .i64 q,.int .i64 w]),hp:=([])} o:=
 Scr.ok h mix (
 .rn 0 [] [] [] [] (al (u2 t3)) <|
 .br (fun a0=>
 .rt [21] [] [] [] [] [] (aj (aj (u2 (u2 (u2 (aj a0 (aj a0 (ag a0 (u2 (k2 (aj t3 (u2 (k2 (al t3)))))))))))) (ak (al (ak (aj (k2 n11) t2))))) (al (aj t5 t2))))
 (fun a0=>
 .br (fun a1=>
  .rt [20,29] [] [] [] [] [] (aj (aj (u2 (u2 (u2 (ag a0 (ag a0 (ag a0 (u2 (aj a1 (aj a1 (ag a1 (u2 (k2 (al t3))))))))))))) (ak (al (ak (aj (k2 n11) t2))))) (al (aj t5 t2))))
 (fun a1=>
  .br (fun a2=>
  .rt [20,28,37] [] [] [] [] [] (aj (aj (u2 (u2 (u2 (ag a0 (ag a0 (ag a0 (u2 (ag a1 (ag a1 (ag a1 (u2 (aj a2 (aj a2 (al (aj a2 t2))))))))))))))) (ak (al (ak (aj (k2 n11) t2))))) (al (aj t5 t2))))
  (fun a2=>
  .rn 0 [20,28,36] [] [] [] (al (u2 (u2 (u2 (ag a0 (ag a0 (ag a0 (u2 (ag a1 (ag a1 (ag a1 (u2 (ag a2 (ag a2 (al (aj a2 t2)))))))))))))))) <|
  .br (fun a3=>
   .rt [20,28,36,43] [] [] [] [] [] (aj (aj a3 (al (ak (aj (k2 n11) t2)))) (al (aj t5 t2))))
  (fun a3=>
   .rn 0 [20,28,36,42] [] [] [] (aj a3 (al (u2 s2))) <|
   .br (fun a4=>
   .rt [20,28,36,49] [] [] [] [] [] (aj (aj a4 (al (ak (aj (k2 n11) t2)))) (al (aj t5 t2))))
   (fun a4=>
   .rn 0 [20,28,36,48] [] [] [] (aj a4 (al (u2 (u2 (u2 s2))))) <|
   .br (fun a5=>
    .rt [20,28,36,59] [] [] [] [] [] (aj (aj a5 (al (ak (aj (k2 n11) t2)))) (al (aj t5 t2))))
   (fun a5=>
    .rt [20,28,36,58] [] [] [] [] [] (aj (aj a5 (al (u2 (u2 (u2 (u2 (u2 (aj t4 (aj (k2 n11) t2))))))))) (al (aj t5 t2)))))))))) (by kernel_rfl)
theorem rof_ct(x:SeD)(q w:Int)(r:Ret)(h:Aj (rofStep x q w) (JO x q w) r):CT Try.prog 74 ([]) ([seA x,.int .i64 q,.int .i64 w]) r.1 r.2:=
 CT.mach (fn:=Try.f74) (c:=zB Try.f74) (S:=rofSt x q w) (hd:=rofHd) Try.func74 (by kernel_rfl) (nL rfl)
  (fun s o ho=>match s,ho with
   | x,_=>x.elim)
  (fun o ho=>rofEn_ok x q w o ho) h
def souSt(x:SeD)(q:Int):Empty->St
 | x=>x.elim
def souHd:Empty->Nat
 | x=>x.elim
def LW(x:SeD)(q:Int):Option (Empty⊕Ret):=
 br (!x.o)
 (some (.inr ([],AV.tup [AV.agg [iV 0,iV 0,uV 0,iV 0,iV 0],bV false])))
 (some (.inr ([],AV.tup [AV.agg [iV 1,iV q,uV x.q,iV x.c,iV x.f],bV true])))
def souStep(x:SeD)(q:Int):Empty->Option (Empty⊕Ret)
 | x=>x.elim
theorem souEn_ok(x:SeD)(q:Int)(o:Empty⊕Ret)(h:LW x q=some o):Arr Try.prog Try.f53 0 (souSt x q) souHd (zB Try.f53) [] {n:=Try.f53.ntmps,fr:=An 0 ([seA x,.int .i64 q]),hp:=([])} o:=
 Scr.ok h mix (
 .rn 1 [] [] [] [] (aj (u2 t3) (al (u2 (u2 s2)))) <|
 .br (fun a0=>
 .rt [17] [] [] [] [] [] (aj (aj a0 (al (ak (aj (k2 n11) t2)))) (al (aj t6 t2))))
 (fun a0=>
 .rt [16] [] [] [] [] [] (aj (aj a0 (al (u2 (u2 (u2 (u2 (u2 (u2 (u2 (aj t5 (aj (k2 n11) t2))))))))))) (al (aj t6 t2))))) (by kernel_rfl)
theorem sou_ct(x:SeD)(q:Int)(r:Ret)(h:Aj (souStep x q) (LW x q) r):CT Try.prog 53 ([]) ([seA x,.int .i64 q]) r.1 r.2:=
 CT.mach (fn:=Try.f53) (c:=zB Try.f53) (S:=souSt x q) (hd:=souHd) Try.func53 (by kernel_rfl) (nL rfl)
  (fun s o ho=>match s,ho with
   | x,_=>x.elim)
  (fun o ho=>souEn_ok x q o ho) h
def rsoSt(x:SeD)(q:Int):Empty->St
 | x=>x.elim
def rsoHd:Empty->Nat
 | x=>x.elim
def JE(x:SeD)(q:Int):Option (Empty⊕Ret):=
 br (!x.o)
 (some (.inr ([],AV.tup [AV.agg [iV 0,iV 0,uV 0,iV 0,iV 0],bV false])))
 (some (.inr ([],AV.tup [AV.agg [iV 1,iV q,uV x.q,iV x.c,iV x.f],bV true])))
def rsoStep(x:SeD)(q:Int):Empty->Option (Empty⊕Ret)
 | x=>x.elim
theorem rsoEn_ok(x:SeD)(q:Int)(o:Empty⊕Ret)(h:JE x q=some o):Arr Try.prog Try.f75 0 (rsoSt x q) rsoHd (zB Try.f75) [] {n:=Try.f75.ntmps,fr:=An 0 ([seA x,.int .i64 q]),hp:=([])} o:=
 Scr.ok h mix (
 .rn 1 [] [] [] [] (aj (u2 t3) (al (u2 (u2 s2)))) <|
 .br (fun a0=>
 .rt [17] [] [] [] [] [] (aj (aj a0 (al (ak (aj (k2 n11) t2)))) (al (aj t6 t2))))
 (fun a0=>
 .rt [16] [] [] [] [] [] (aj (aj a0 (al (u2 (u2 (u2 (u2 (u2 (u2 (u2 (aj t5 (aj (k2 n11) t2))))))))))) (al (aj t6 t2))))) (by kernel_rfl)
theorem rso_ct(x:SeD)(q:Int)(r:Ret)(h:Aj (rsoStep x q) (JE x q) r):CT Try.prog 75 ([]) ([seA x,.int .i64 q]) r.1 r.2:=
 CT.mach (fn:=Try.f75) (c:=zB Try.f75) (S:=rsoSt x q) (hd:=rsoHd) Try.func75 (by kernel_rfl) (nL rfl)
  (fun s o ho=>match s,ho with
   | x,_=>x.elim)
  (fun o ho=>rsoEn_ok x q o ho) h
def cfmSt(x:SeD)(q:Int):Empty->St
 | x=>x.elim
def cfmHd:Empty->Nat
 | x=>x.elim
def LA(x:SeD)(q:Int):Option (Empty⊕Ret):=
 br (q != x.q)
 (some (.inr ([],AV.tup [AV.agg [uV x.q,bV x.o,iV x.c,iV x.f],bV false])))
 (br (x.q==x.q&&(false==x.o&&(x.c==x.c&&(x.f==x.f&&true))))
  (some (.inr ([],AV.tup [AV.agg [uV x.q,bV x.o,iV x.c,iV x.f],bV false])))
  (some (.inr ([],AV.tup [AV.agg [uV x.q,bV false,iV x.c,iV x.f],bV true]))))
def cfmStep(x:SeD)(q:Int):Empty->Option (Empty⊕Ret)
 | x=>x.elim
theorem cfmEn_ok(x:SeD)(q:Int)(o:Empty⊕Ret)(h:LA x q=some o):Arr Try.prog Try.f104 0 (cfmSt x q) cfmHd (zB Try.f104) [] {n:=Try.f104.ntmps,fr:=An 0 ([seA x,.int .u64 q]),hp:=([])} o:=
 Scr.ok h mix (
 .rn 2 [] [] [] [] (aj (u2 t3) (aj (u2 (ak (al (k2 n11)))) (al (u2 s2)))) <|
 .br (fun a0=>
 .rt [27] [] [] [] [] [] (aj (aj (u2 (u2 (u2 (aj t3 (u2 (aj a0 (aj a0 (aj a0 (al (aj a0 t2)))))))))) (ak (al (u2 (aj (k2 n11) t2))))) (al (aj t5 t2))))
 (fun a0=>
 .rn 0 [26] [] [] [] (al (u2 (u2 (u2 (aj t3 (u2 (ag a0 (ag a0 (aj (aj a0 t3) (al (aj a0 t2))))))))))) <|
 .br (fun a1=>
  .rt [26,35] [] [] [] [] [] (aj (aj a1 (al (u2 (aj (k2 n11) t2)))) (al (aj t5 t2))))
 (fun a1=>
  .rt [26,34] [] [] [] [] [] (aj (aj a1 (al (u2 (aj (k2 n11) t2)))) (al (aj t5 t2)))))) (by kernel_rfl)
theorem cfm_ct(x:SeD)(q:Int)(r:Ret)(h:Aj (cfmStep x q) (LA x q) r):CT Try.prog 104 ([]) ([seA x,.int .u64 q]) r.1 r.2:=
 CT.mach (fn:=Try.f104) (c:=zB Try.f104) (S:=cfmSt x q) (hd:=cfmHd) Try.func104 (by kernel_rfl) (nL rfl)
  (fun s o ho=>match s,ho with
   | x,_=>x.elim)
  (fun o ho=>cfmEn_ok x q o ho) h
def rcfSt(x:SeD)(q:Int):Empty->St
 | x=>x.elim
def rcfHd:Empty->Nat
 | x=>x.elim
def LX(x:SeD)(q:Int):Option (Empty⊕Ret):=
 br (!x.o)
 (some (.inr ([],AV.tup [AV.agg [uV x.q,bV x.o,iV x.c,iV x.f],bV false])))
 (br (x.q != q)
  (some (.inr ([],AV.tup [AV.agg [uV x.q,bV x.o,iV x.c,iV x.f],bV false])))
  (some (.inr ([],AV.tup [AV.agg [uV x.q,bV false,iV x.c,iV x.f],bV true]))))
def rcfStep(x:SeD)(q:Int):Empty->Option (Empty⊕Ret)
 | x=>x.elim
theorem rcfEn_ok(x:SeD)(q:Int)(o:Empty⊕Ret)(h:LX x q=some o):Arr Try.prog Try.f96 0 (rcfSt x q) rcfHd (zB Try.f96) [] {n:=Try.f96.ntmps,fr:=An 0 ([seA x,.int .u64 q]),hp:=([])} o:=
 Scr.ok h mix (
 .rn 0 [] [] [] [] (al (u2 t3)) <|
 .br (fun a0=>
 .rt [19] [] [] [] [] [] (aj (aj (u2 (u2 (u2 (u2 (aj a0 (aj a0 (aj a0 (aj a0 (al (aj a0 t2)))))))))) (ak (al (u2 (aj (k2 n11) t2))))) (al (aj t5 t2))))
 (fun a0=>
 .rn 0 [18] [] [] [] (al (u2 (u2 (u2 (u2 (ag a0 (ag a0 (ag a0 (aj (aj a0 t3) (al (aj a0 t2))))))))))) <|
 .br (fun a1=>
  .rt [18,29] [] [] [] [] [] (aj (aj a1 (al (u2 (aj (k2 n11) t2)))) (al (aj t5 t2))))
 (fun a1=>
  .rt [18,28] [] [] [] [] [] (aj (aj a1 (aj (u2 s2) (al (u2 (aj (k2 n11) t2))))) (al (aj t5 t2)))))) (by kernel_rfl)
theorem rcf_ct(x:SeD)(q:Int)(r:Ret)(h:Aj (rcfStep x q) (LX x q) r):CT Try.prog 96 ([]) ([seA x,.int .u64 q]) r.1 r.2:=
 CT.mach (fn:=Try.f96) (c:=zB Try.f96) (S:=rcfSt x q) (hd:=rcfHd) Try.func96 (by kernel_rfl) (nL rfl)
  (fun s o ho=>match s,ho with
   | x,_=>x.elim)
  (fun o ho=>rcfEn_ok x q o ho) h
def evtSt(L:List Int)(kk:Nat):Empty->St
 | x=>x.elim
def evtHd:Empty->Nat
 | x=>x.elim
def Iz(L:List Int)(kk:Nat):Option (Empty⊕Ret):=
 gu (kk<9223372036854775807) <|
 gu (kk+1<9223372036854775807) <|
 gu (kk+1+1<9223372036854775807) <|
 br (Ae L (kk+1+1) 12==0)
 (gu (kk+1+1+1<9223372036854775807) <|
  gu (kk+1+1+1+1<9223372036854775807) <|
  gu (kk+1+1+1+1+1<9223372036854775807) <|
  some (.inr ([some (bK [AV.agg [AV.lst (List.map iV L),iV (iN (kk+1+1+1+1+1+1))]] 2)],AV.agg [iV (Ae L (kk+1+1+1) 13),iV (Ae L (kk+1+1+1+1) 2),iV (i64.wrap (Ae L (kk+1+1+1+1+1) 8-1)),AV.str (ByteArray.mk #[])])))
 (some (.inr ([some (bK [AV.agg [AV.lst (List.map iV L),iV (iN (kk+1+1+1))]] 2)],AV.agg [iV (i64.wrap (2+Ae L kk 9)),iV 0,iV (Ae L (kk+1) 3),AV.str (ByteArray.mk #[])])))
def evtStep(L:List Int)(kk:Nat):Empty->Option (Empty⊕Ret)
 | x=>x.elim
theorem evtEn_ok(L:List Int)(kk:Nat)(o:Empty⊕Ret)(h:Iz L kk=some o):Arr Try.prog Try.f34 1 (evtSt L kk) evtHd (zB Try.f34) [] {n:=Try.f34.ntmps,fr:=An 0 ([.ptr 0 0 0]),hp:=([some (Ab L kk)])} o:=
 Scr.ok h mix (
 .rn 0 [] [] [] [] s2 <|
 .gu fun a0=>
 .gu fun a1=>
 have c0:=AA (L) (kk) (9) a0;
 have c1:=AA (L) (kk+1) (3) a1;
 .rn 0 [] [] [(5,hK c0 [0] []),(8,hK c1 [0] [])] [] (al (u2 (aj (ak (k3 (al (c0)))) (u2 (u2 (aj (ak (k3 (al (c1)))) (aj t3 (ak (al (k2 n11)))))))))) <|
 .gu fun a2=>
 have c2:=AA (L) (kk+1+1) (12) a2;
 .rn 0 [] [] [(11,hK c2 [0] [])] [] (al (u2 (aj (ak (k3 (al (c2)))) s2))) <|
 .br (fun a3=>
 .gu fun a4=>
 .gu fun a5=>
 .gu fun a6=>
 have c3:=AA (L) (kk+1+1+1) (13) a4;
 have c4:=AA (L) (kk+1+1+1+1) (2) a5;
 have c5:=AA (L) (kk+1+1+1+1+1) (8) a6;
 .rt [25] [] [(14,hK c3 [0] []),(16,hK c4 [0] []),(18,hK c5 [0] [])] [] [0] [] (aj (aj a3 (aj (u2 (aj (ak (k3 (al (c3)))) (u2 (aj (ak (k3 (al (c4)))) (u2 (aj (ak (k3 (al (c5)))) (u2 (aj t4 (al (k2 (show Nat.le 1 [AV.agg [iv (i64.wrap (2+Ae L kk 9)),iv 0,iv (Ae L (kk+1) 3),AV.str (ByteArray.mk #[])]].length from(nL rfl)))))))))))) (al (u2 (al (k2 n11)))))) (aj t5 t2)))
 (fun a3=>
 .rt [24] [] [] [] [0] [] (aj (aj a3 (al (u2 (al (k2 n11))))) (aj t5 t2)))) (by kernel_rfl)
theorem evt_ct(L:List Int)(kk:Nat)(r:Ret)(h:Aj (evtStep L kk) (Iz L kk) r):CT Try.prog 34 ([some (Ab L kk)]) ([.ptr 0 0 0]) r.1 r.2:=
 CT.mach (fn:=Try.f34) (c:=zB Try.f34) (S:=evtSt L kk) (hd:=evtHd) Try.func34 (by kernel_rfl) (nL rfl)
  (fun s o ho=>match s,ho with
   | x,_=>x.elim)
  (fun o ho=>evtEn_ok L kk o ho) h
def senSt(l:List FrD)(x:FrD):Empty->St
 | x=>x.elim
def senHd:Empty->Nat
 | x=>x.elim
def Hn(l:List FrD)(x:FrD):Option (Empty⊕Ret):=
 br (decide (6<iN (List.map frA l).length))
 (some (.inr ([],AV.nils)))
 (gu (iN (List.map frA l).length<=7) <|
  gu (∀(e:AV),e∈List.map frA l->e.cells.length=5) <|
  br (decide (iN (List.map frA l).length<6))
  (gu (([]++List.take (min (List.map frA l).length (List.map frA l).length) (List.map frA l)++List.drop (0+min (List.map frA l).length (List.map frA l).length) (List.replicate (List.map frA l).length (AV.agg [iV 0,iV 0,uV 0,iV 0,iV 0]))).length+[AV.agg [iV x.k,iV x.r,uV x.q,iV x.c,iV x.f]].length<=9223372036854775807) <|
   gu ((([]++List.take (min (List.map frA l).length (List.map frA l).length) (List.map frA l)++List.drop (0+min (List.map frA l).length (List.map frA l).length) (List.replicate (List.map frA l).length (AV.agg [iV 0,iV 0,uV 0,iV 0,iV 0]))).length+[AV.agg [iV x.k,iV x.r,uV x.q,iV x.c,iV x.f]].length) * 40<=140737488355328) <|
   some (.inr ([],AV.lst ([]++List.take (min (List.map frA l).length (List.map frA l).length) (List.map frA l)++List.drop (0+min (List.map frA l).length (List.map frA l).length) (List.replicate (List.map frA l).length (AV.agg [iV 0,iV 0,uV 0,iV 0,iV 0]))++[AV.agg [iV x.k,iV x.r,uV x.q,iV x.c,iV x.f]]))))
  (some (.inr ([],AV.lst ([]++List.take (min (List.map frA l).length (List.map frA l).length) (List.map frA l)++List.drop (0+min (List.map frA l).length (List.map frA l).length) (List.replicate (List.map frA l).length (AV.agg [iV 0,iV 0,uV 0,iV 0,iV 0])))))))
def senStep(l:List FrD)(x:FrD):Empty->Option (Empty⊕Ret)
 | x=>x.elim
theorem senEn_ok(l:List FrD)(x:FrD)(o:Empty⊕Ret)(h:Hn l x=some o):Arr Try.prog Try.f54 0 (senSt l x) senHd (zB Try.f54) [] {n:=Try.f54.ntmps,fr:=An 0 ([.lst (l.map frA),frA x]),hp:=([])} o:=
 Scr.ok h mix (
 .rn 1 [] [] [] [] (ag t2 (al (u2 (u2 s2)))) <|
 .br (fun a0=>
 .rt [17] [] [] [] [] [] (aj (aj a0 s2) t2))
 (fun a0=>
 .gu fun a1=>
 .rn 0 [16] [] [] [] (aj a0 (al (u2 (u2 (aj (ak (aj (show 0<=iN (List.map frA l).length from(Int.natCast_nonneg _)) (aj a1 (aj (show(280:Int)<=(281474976710656:Int) from(by first | exact nL rfl | decide)) (show(7:Int)<=(9223372036854775807:Int) from(by first | exact nL rfl | decide)))))) s2))))) <|
 .gu fun a2=>
 .rn 1 [] [] [] [] (aj (u2 (u2 (al (k2 (aj (show 0+(List.map frA l).length<=(List.replicate (List.map frA l).length (AV.agg [iv 0,iv 0,uV 0,iv 0,iv 0])).length by simp) a2))))) (al (u2 (u2 s2)))) <|
 .br (fun a3=>
  .gu fun a4=>
  .gu fun a5=>
  .rt [35] [] [] [] [] [3] (aj (aj a3 (aj (u2 (u2 (u2 (aj (k2 (aj (show([]++List.take (min (List.map frA l).length (List.map frA l).length) (List.map frA l)++List.drop (0+min (List.map frA l).length (List.map frA l).length) (List.replicate (List.map frA l).length (AV.agg [iv 0,iv 0,uV 0,iv 0,iv 0]))).length=(List.map frA l).length by simp) (aj (aj (show nat_lit 5=nat_lit 5 from rfl) (show 1<=[AV.agg [iv x.k,iv x.r,uV x.q,iv x.c,iv x.f]].length by simp)) (aj a4 a5)))) s2)))) (al (u2 s2)))) (al (show([]++List.take (min (List.map frA l).length (List.map frA l).length) (List.map frA l)++List.drop (0+min (List.map frA l).length (List.map frA l).length) (List.replicate (List.map frA l).length (AV.agg [iv 0,iv 0,uV 0,iv 0,iv 0]))).length+[AV.agg [iv x.k,iv x.r,uV x.q,iv x.c,iv x.f]].length=([]++List.take (min (List.map frA l).length (List.map frA l).length) (List.map frA l)++List.drop (0+min (List.map frA l).length (List.map frA l).length) (List.replicate (List.map frA l).length (AV.agg [iv 0,iv 0,uV 0,iv 0,iv 0]))++[AV.agg [iv x.k,iv x.r,uV x.q,iv x.c,iv x.f]]).length by simp))))
 (fun a3=>
  .rt [34] [] [] [] [] [1] (aj (aj a3 (al (u2 s2))) (al (show(List.map frA l).length=([]++List.take (min (List.map frA l).length (List.map frA l).length) (List.map frA l)++List.drop (0+min (List.map frA l).length (List.map frA l).length) (List.replicate (List.map frA l).length (AV.agg [iv 0,iv 0,uV 0,iv 0,iv 0]))).length by simp)))))) (by kernel_rfl)
theorem Oj(l:List FrD)(x:FrD)(r:Ret)(h:Aj (senStep l x) (Hn l x) r):CT Try.prog 54 ([]) ([.lst (l.map frA),frA x]) r.1 r.2:=
 CT.mach (fn:=Try.f54) (c:=zB Try.f54) (S:=senSt l x) (hd:=senHd) Try.func54 (by kernel_rfl) (nL rfl)
  (fun s o ho=>match s,ho with
   | x,_=>x.elim)
  (fun o ho=>senEn_ok l x o ho) h
def rseSt(l:List FrD)(x:FrD):Empty->St
 | x=>x.elim
def rseHd:Empty->Nat
 | x=>x.elim
def Hm(l:List FrD)(x:FrD):Option (Empty⊕Ret):=
 br (decide (6<iN (List.map frA l).length))
 (some (.inr ([],AV.nils)))
 (gu (∀(e:AV),e∈List.map frA l->e.cells.length=5) <|
  gu ((List.map frA l).length<=9223372036854775807) <|
  gu ((List.map frA l).length * 40<=140737488355328) <|
  br (decide (iN (List.map frA l).length<6))
  (gu ((List.map frA l).length+[AV.agg [iV x.k,iV x.r,uV x.q,iV x.c,iV x.f]].length<=9223372036854775807) <|
   gu (((List.map frA l).length+[AV.agg [iV x.k,iV x.r,uV x.q,iV x.c,iV x.f]].length) * 40<=140737488355328) <|
   some (.inr ([],AV.lst (List.map frA l++[AV.agg [iV x.k,iV x.r,uV x.q,iV x.c,iV x.f]]))))
  (some (.inr ([],AV.lst (List.map frA l)))))
def rseStep(l:List FrD)(x:FrD):Empty->Option (Empty⊕Ret)
 | x=>x.elim
theorem rseEn_ok(l:List FrD)(x:FrD)(o:Empty⊕Ret)(h:Hm l x=some o):Arr Try.prog Try.f76 0 (rseSt l x) rseHd (zB Try.f76) [] {n:=Try.f76.ntmps,fr:=An 0 ([.lst (l.map frA),frA x]),hp:=([])} o:=
 Scr.ok h mix (
 .rn 1 [] [] [] [] (ag t2 (al (u2 (u2 s2)))) <|
 .br (fun a0=>
 .rt [17] [] [] [] [] [] (aj (aj a0 s2) t2))
 (fun a0=>
 .gu fun a1=>
 .gu fun a2=>
 .gu fun a3=>
 .rn 1 [16] [] [] [] (aj a0 (aj (u2 (aj (ak (aj a1 (aj a2 a3))) s2)) (al (u2 (u2 s2))))) <|
 .br (fun a4=>
  .gu fun a5=>
  .gu fun a6=>
  .rt [27] [] [] [] [] [3] (aj (aj a4 (aj (u2 (u2 (u2 (aj (k2 (aj (show(List.map frA l).length=(List.map frA l).length from rfl) (aj (aj (show nat_lit 5=nat_lit 5 from rfl) (show 1<=[AV.agg [iv x.k,iv x.r,uV x.q,iv x.c,iv x.f]].length by simp)) (aj a5 a6)))) s2)))) (al (u2 s2)))) (al (show(List.map frA l).length+[AV.agg [iv x.k,iv x.r,uV x.q,iv x.c,iv x.f]].length=(List.map frA l++[AV.agg [iv x.k,iv x.r,uV x.q,iv x.c,iv x.f]]).length by simp))))
 (fun a4=>
  .rt [26] [] [] [] [] [1] (aj (aj a4 (al (u2 s2))) (al (show(List.map frA l).length=(List.map frA l).length from rfl)))))) (by kernel_rfl)
theorem Nh(l:List FrD)(x:FrD)(r:Ret)(h:Aj (rseStep l x) (Hm l x) r):CT Try.prog 76 ([]) ([.lst (l.map frA),frA x]) r.1 r.2:=
 CT.mach (fn:=Try.f76) (c:=zB Try.f76) (S:=rseSt l x) (hd:=rseHd) Try.func76 (by kernel_rfl) (nL rfl)
  (fun s o ho=>match s,ho with
   | x,_=>x.elim)
  (fun o ho=>rseEn_ok l x o ho) h
end Go.Proofs.Ytifigemlifbkcaa
namespace Go.AX
variable {P:Program}
inductive B4 (P:Program) (m:Nat):List Oper->St->St->Prop
 | nil (st:St):B4 P m [] st st
 | cons {o:Oper} {r:List Oper} {st st':St} {R:OpR} (hg:o.guard=none) (hop:Ah P o st.ev (nth st.hp) st.hp.length R) (hf:R.fits (nth st.hp)) (hd:∀b,b∈R.dead->m<=b)
   (hdst:∀d,o.dst=some d->d<st.n) (h:B4 P m r (st.app o.dst R) st'):B4 P m (o::r) st st'
theorem Pa{m:Nat}{ops:Array Oper}{Q:Exit->Act->World->Prop}{A0:Nat->Prop}{n0:Nat}:∀{l:List Oper} {st st':St},B4 P m l st st'->
  ∀{φ:Phi} {a:Act} {w:World},m<=st.hp.length->Rel A0 n0 m φ st a w->
   (∀φ' a' w',m<=st'.hp.length->Rel A0 n0 m φ' st' a' w'->Tr m φ st.h w φ' st'.h w'->Q .normal a' w')->wpList P ops Q l a w:=by
 intro l st st' h
 induction h with
 | nil st=>intro φ a w hm hr k;exact k φ a w hm hr (.refl _ _ _ _)
 | @cons o r st st' R hg hop hf hd hdst h ih=>
  intro φ a w hm hr k
  have hm':m<=(st.app o.dst R).hp.length:=by simp[St.app,El,Ek];omega
  unfold wpList
  rw[if_pos (IT (φ:=φ) (A:=Ok A0 n0 φ st.h w) (w:=w) fun k want hk=>by rw[hg] at hk;cases hk)]
  left
  refine hop φ (Ok A0 n0 φ st.h w) w a _ _ (fun r hA=>⟨hA.2.1,hA.2.2⟩) hr.ev hr.heap hr.out fun v' w' φ' he=>?_
  obtain⟨s1,s2⟩:=hr.step hm hd hdst hf he
  exact ih hm' s1 fun φ2 a2 w2 g1 g2 g3=>k φ2 a2 w2 g1 g2 (s2.trans g3)
set_option linter.unusedVariables false in
theorem T.ops{m id:Nat}{ops:Array Oper}{st st':St}{post:Exit->St->Prop}(h:B4 P m ops.toList st st')(hpost:post .normal st'):T P m (.region id ops false) st post:=
 fun A0 n0 φ a w hm hr=>wp_region_list (Pa h hm hr fun φ' a' w' g1 g2 g3=>⟨φ',_,hpost,g2,g1,g3⟩)
theorem GF:∀(l:List (Option Blk)) (i:Nat),Cf [] [] i l=l
 | [],_=>rfl
 | x::r,i=>by simp only[Cf,B7,Bq];rw[GF r]
theorem LG(b:Nat):∀(l:List (Option Blk)) (i:Nat),i<=b->Cf [b] [] i l=l.set (b-i) none
 | [],_,_=>by simp[Cf]
 | x::r,i,h=>by
  simp only[Cf,B7,Bq]
  by_cases hb:b=i
  .subst hb
   rw[Nat.beq_refl,Nat.sub_self]
   have:∀(l:List (Option Blk)) (j:Nat),b<j->Cf [b] [] j l=l:=by
    intro l
    induction l with
    | nil=>intro j _;rfl
    | cons y r ih=>
     intro j hj
     have hne:Nat.beq b j=false:=by cases hq:Nat.beq b j with | false=>rfl | true=>exact absurd (Ri hq) (by omega)
     simp only[Cf,B7,Bq,hne]
     rw[ih (j+1) (by omega)]
   rw[this r (b+1) (by omega)];rfl
  .have hne:Nat.beq b i=false:=by cases hq:Nat.beq b i with | false=>rfl | true=>exact absurd (Ri hq) hb
   rw[hne,LG b r (i+1) (by omega),show b-i=(b-(i+1))+1 by omega];rfl
theorem NZ(b:Nat)(blk:Blk):∀(l:List (Option Blk)) (i:Nat),i<=b->Cf [] [(b,blk)] i l=l.set (b-i) (some blk)
 | [],_,_=>by simp[Cf]
 | x::r,i,h=>by
  simp only[Cf,B7,Bq]
  by_cases hb:b=i
  .subst hb
   rw[Nat.beq_refl,Nat.sub_self]
   have:∀(l:List (Option Blk)) (j:Nat),b<j->Cf [] [(b,blk)] j l=l:=by
    intro l
    induction l with
    | nil=>intro j _;rfl
    | cons y r ih=>
     intro j hj
     have hne:Nat.beq b j=false:=by cases hq:Nat.beq b j with | false=>rfl | true=>exact absurd (Ri hq) (by omega)
     simp only[Cf,B7,Bq,hne]
     rw[ih (j+1) (by omega)]
   rw[this r (b+1) (by omega)];rfl
  .have hne:Nat.beq b i=false:=by cases hq:Nat.beq b i with | false=>rfl | true=>exact absurd (Ri hq) hb
   rw[hne,NZ b blk r (i+1) (by omega),show b-i=(b-(i+1))+1 by omega];rfl
variable {m:Nat} {o:Oper} {r:List Oper} {n:Nat} {fr:List (Nat×AV)} {hp:List (Option Blk)} {st':St}
theorem B4.val{d:Nat}{v:AV}(hg:o.guard=none)(ho:o.dst=some d)(hd:d<n)(hop:Ah P o (St.ev ⟨n,fr,hp⟩) (nth hp) hp.length {v})(h:B4 P m r ⟨n,(d,v)::fr,hp⟩ st'):B4 P m (o::r) ⟨n,fr,hp⟩ st':=by
 refine .cons hg hop (OpR.fits_value _ _) (fun b hb=>by simp at hb) (fun d' h'=>by rw[ho] at h';cases h';exact hd) ?_
 have e:St.app ⟨n,fr,hp⟩ o.dst {v}=⟨n,(d,v)::fr,hp⟩:=by
  unfold St.app;rw[ho];simp only[put,GF,A5,List.append_nil]
 rw[e];exact h
theorem B4.new{d:Nat}{v:AV}{blk:Blk}(hg:o.guard=none)(ho:o.dst=some d)(hd:d<n)(hop:Ah P o (St.ev ⟨n,fr,hp⟩) (nth hp) hp.length {v,new:=[blk]})(h:B4 P m r ⟨n,(d,v)::fr,hp++[some blk]⟩ st'):B4 P m (o::r) ⟨n,fr,hp⟩ st':=by
 refine .cons hg hop ⟨fun b blk hm=>by simp at hm,fun b hm=>by simp at hm⟩ (fun b hb=>by simp at hb) (fun d' h'=>by rw[ho] at h';cases h';exact hd) ?_
 have e:St.app ⟨n,fr,hp⟩ o.dst {v,new:=[blk]}=⟨n,(d,v)::fr,hp++[some blk]⟩:=by
  unfold St.app;rw[ho];simp only[put,GF,A5]
 rw[e];exact h
theorem B4.move{d b:Nat}{v:AV}{blk blk0:Blk}(hg:o.guard=none)(ho:o.dst=some d)(hd:d<n)(hb:nth hp b=some blk0)(hw:blk0.wr=true)(hm:m<=b)(hop:Ah P o (St.ev ⟨n,fr,hp⟩) (nth hp) hp.length {v,dead:=[b],new:=[blk]})
  (h:B4 P m r ⟨n,(d,v)::fr,hp.set b none++[some blk]⟩ st'):B4 P m (o::r) ⟨n,fr,hp⟩ st':=by
 refine .cons hg hop ⟨fun b blk hm=>by simp at hm,fun b' hm'=>by simp at hm';subst hm';exact⟨⟨blk0,hb,hw⟩,rfl⟩⟩ (fun b' hb'=>by simp at hb';subst hb';exact hm) (fun d' h'=>by rw[ho] at h';cases h';exact hd) ?_
 have e:St.app ⟨n,fr,hp⟩ o.dst {v,dead:=[b],new:=[blk]}=⟨n,(d,v)::fr,hp.set b none++[some blk]⟩:=by
  unfold St.app;rw[ho];simp only[put,LG b hp 0 (Rn _),A5,Nat.sub_zero]
 rw[e];exact h
theorem B4.chg{b:Nat}{v:AV}{blk blk0:Blk}(hg:o.guard=none)(ho:o.dst=none)(hb:nth hp b=some blk0)(hw:blk0.wr=true)(hop:Ah P o (St.ev ⟨n,fr,hp⟩) (nth hp) hp.length {v,chg:=[(b,blk)]})
  (h:B4 P m r ⟨n,fr,hp.set b (some blk)⟩ st'):B4 P m (o::r) ⟨n,fr,hp⟩ st':=by
 refine .cons hg hop (Gq hb hw) (fun b' hb'=>by simp at hb') (fun d' h'=>by rw[ho] at h';cases h') ?_
 have e:St.app ⟨n,fr,hp⟩ o.dst {v,chg:=[(b,blk)]}=⟨n,fr,hp.set b (some blk)⟩:=by
  unfold St.app;rw[ho];simp only[put,NZ b blk hp 0 (Rn _),A5,Nat.sub_zero,List.append_nil]
 rw[e];exact h
theorem Ren.slots{m n:Nat}{fr fr':List (Nat×AV)}{hp:List (Option Blk)}(h:∀s,Al fr' s = .unk\/Al fr' s=Al fr s):Ren m ⟨n,fr,hp⟩ ⟨n,fr',hp⟩:=by
 intro A0 n0 φ a w hm hr
 refine⟨φ,⟨hr.defs,hr.size,fun s=>?_,hr.heap,hr.out,hr.base,hr.own⟩,hm,.refl m φ _ w⟩
 show VR _ _ _ (Al fr' s) _
 rcases h s with h | h
 .rw[h];exact .imm _ _ (.unk _)
 .rw[h];exact hr.slot s
def Ju(P:Program)(o:Oper)(ev:Operand->AV)(h:Hp)(nb:Nat)(S:OpR->Prop):Prop:=
 ∀(φ:Phi) (A:Nat->Prop) (w:World) (a:Act) (K:Act->World->Prop) (Q:Exit->Act->World->Prop),
  (∀r,A r->r<w.heap.size/\¬Mut φ h r)->(∀x,VR φ A w (ev x) (a.eval x))->HR φ A w h->(∀b,nb<=b->φ b=none)->
  (∀R v' w' φ',S R->Eff φ A w h nb R v' w' φ'->K (a.put o.dst v') w')->o.wp P a w K Q
inductive Ci (P:Program) (m:Nat) (ops:Array Oper):List Oper->St->(St->Prop)->Prop
 | nil {st:St} {k:St->Prop} (h:k st):Ci P m ops [] st k
 | one {o:Oper} {r:List Oper} {st:St} {k:St->Prop} {S:OpR->Prop} (hg:∀kk want,o.guard=some (kk,want)->∃g,(ops[kk]?).bind (·.dst)=some g/\Al st.fr g = .bool want) (hop:Ju P o st.ev (nth st.hp) st.hp.length S)
   (hf:∀R,S R->R.fits (nth st.hp)/\(∀b,b∈R.dead->m<=b)/\∀d,o.dst=some d->d<st.n) (h:∀R,S R->Ci P m ops r (st.app o.dst R) k):Ci P m ops (o::r) st k
 | skip {o:Oper} {r:List Oper} {st:St} {k:St->Prop} {kk g:Nat} {want:Bool} (hg:o.guard=some (kk,want)) (hk:(ops[kk]?).bind (·.dst)=some g) (hv:Al st.fr g = .bool (!want)) (hd:∀d,o.dst=some d->d<st.n)
   (h:Ci P m ops r (st.app o.dst {v:=.tup []}) k):Ci P m ops (o::r) st k
theorem QI{m:Nat}{ops:Array Oper}{Q:Exit->Act->World->Prop}{A0:Nat->Prop}{n0:Nat}:∀{l:List Oper} {st:St} {k:St->Prop},Ci P m ops l st k->
  ∀{φ:Phi} {a:Act} {w:World},m<=st.hp.length->Rel A0 n0 m φ st a w->
   (∀st' φ' a' w',k st'->m<=st'.hp.length->Rel A0 n0 m φ' st' a' w'->Tr m φ st.h w φ' st'.h w'->Q .normal a' w')->wpList P ops Q l a w:=by
 intro l st k h
 induction h with
 | nil h=>intro φ a w hm hr K;exact K _ φ a w h hm hr (.refl _ _ _ _)
 | @one o r st k S hg hop hf h ih=>
  intro φ a w hm hr K
  unfold wpList
  rw[if_pos (IT (φ:=φ) (A:=Ok A0 n0 φ st.h w) (w:=w) fun kk want hk=>by
   obtain⟨g,g1,g2⟩:=hg kk want hk
   exact⟨g,g1,by rw[<-g2];exact hr.slot g⟩)]
  left
  refine hop φ (Ok A0 n0 φ st.h w) w a _ _ (fun r hA=>⟨hA.2.1,hA.2.2⟩) hr.ev hr.heap hr.out fun R v' w' φ' hS he=>?_
  obtain⟨f1,f2,f3⟩:=hf R hS
  have hm':m<=(st.app o.dst R).hp.length:=by simp[St.app,El,Ek];omega
  obtain⟨s1,s2⟩:=hr.step hm f2 f3 f1 he
  exact ih R hS hm' s1 fun st2 φ2 a2 w2 g0 g1 g2 g3=>K st2 φ2 a2 w2 g0 g1 g2 (s2.trans g3)
 | @skip o r st k kk g want hg hk hv hd h ih=>
  intro φ a w hm hr K
  unfold wpList
  rw[if_neg (by rw[KO hg hk (.inl hv) (hr.slot g)];simp)]
  have he:Eff φ (Ok A0 n0 φ st.h w) w st.h st.hp.length {v:=.tup []} undef w φ:=Eff.skip hr.out
  have hm':m<=(st.app o.dst {v:=.tup []}).hp.length:=by simp[St.app,El,Ek];omega
  obtain⟨s1,s2⟩:=hr.step hm (fun b hb=>by simp at hb) hd (OpR.fits_value _ _) he
  exact ih hm' s1 fun st2 φ2 a2 w2 g0 g1 g2 g3=>K st2 φ2 a2 w2 g0 g1 g2 (s2.trans g3)
set_option linter.unusedVariables false in
theorem T.opsN{m id:Nat}{ops:Array Oper}{st:St}{post:Exit->St->Prop}(h:Ci P m ops ops.toList st (post .normal)):T P m (.region id ops false) st post:=
 fun A0 n0 φ a w hm hr=>wp_region_list (QI h hm hr fun st' φ' a' w' g0 g1 g2 g3=>⟨φ',_,g0,g2,g1,g3⟩)
theorem Ah.s{o:Oper}{ev:Operand->AV}{h:Hp}{nb:Nat}{R:OpR}(hop:Ah P o ev h nb R):Ju P o ev h nb (fun R'=>R'=R):=
 fun φ A w a K Q h1 h2 h3 h4 h5=>hop φ A w a K Q h1 h2 h3 h4 fun v' w' φ' he=>h5 R v' w' φ' rfl he
theorem Ci.val{m:Nat}{ops:Array Oper}{o:Oper}{r:List Oper}{n:Nat}{fr:List (Nat×AV)}{hp:List (Option Blk)}{k:St->Prop}{d:Nat}{v:AV}(hg:∀kk want,o.guard=some (kk,want)->∃g,(ops[kk]?).bind (·.dst)=some g/\Al fr g = .bool want)(ho:o.dst=some d)(hd:d<n)(hop:Ah P o (St.ev ⟨n,fr,hp⟩) (nth hp) hp.length {v})(h:Ci P m ops r ⟨n,(d,v)::fr,hp⟩ k):Ci P m ops (o::r) ⟨n,fr,hp⟩ k:=by
 refine .one hg hop.s (fun R' e=>by subst e;exact⟨OpR.fits_value _ _,fun b hb=>by simp at hb,fun d' h'=>by rw[ho] at h';cases h';exact hd⟩) (fun R' e=>?_)
 subst e
 have e:St.app ⟨n,fr,hp⟩ o.dst {v}=⟨n,(d,v)::fr,hp⟩:=by
  unfold St.app;rw[ho];simp only[put,GF,A5,List.append_nil]
 rw[e];exact h
theorem Ci.new{m:Nat}{ops:Array Oper}{o:Oper}{r:List Oper}{n:Nat}{fr:List (Nat×AV)}{hp:List (Option Blk)}{k:St->Prop}{d:Nat}{v:AV}{blk:Blk}(hg:∀kk want,o.guard=some (kk,want)->∃g,(ops[kk]?).bind (·.dst)=some g/\Al fr g = .bool want)(ho:o.dst=some d)(hd:d<n)(hop:Ah P o (St.ev ⟨n,fr,hp⟩) (nth hp) hp.length {v,new:=[blk]})(h:Ci P m ops r ⟨n,(d,v)::fr,hp++[some blk]⟩ k):Ci P m ops (o::r) ⟨n,fr,hp⟩ k:=by
 refine .one hg hop.s (fun R' e=>by subst e;exact⟨⟨fun b blk hm=>by simp at hm,fun b hm=>by simp at hm⟩,fun b hb=>by simp at hb,fun d' h'=>by rw[ho] at h';cases h';exact hd⟩) (fun R' e=>?_)
 subst e
 have e:St.app ⟨n,fr,hp⟩ o.dst {v,new:=[blk]}=⟨n,(d,v)::fr,hp++[some blk]⟩:=by
  unfold St.app;rw[ho];simp only[put,GF,A5]
 rw[e];exact h
theorem noG{ops:Array Oper}{o:Oper}{fr:List (Nat×AV)}(h:o.guard=none):∀kk want,o.guard=some (kk,want)->∃g,(ops[kk]?).bind (·.dst)=some g/\Al fr g = .bool want:=fun kk want e=>by rw[h] at e;cases e
def QApp(nb b i z:Nat)(es src:List AV)(flat:Bool)(R:OpR):Prop:=
 ∃es' i',i'<=es'.length/\es'.drop i'=es.drop i++src/\es'.length<=es.length+src.length/\R={v:=.sl nb i' (es'.length-i'),dead:=[b],new:=[{es:=es',z,flat}]}
theorem Ci.q{m:Nat}{o:Oper}{r:List Oper}{n d b i z:Nat}{fr:List (Nat×AV)}{hp:List (Option Blk)}{es src:List AV}{flat:Bool}{blk0:Blk}{k:St->Prop}{ops:Array Oper}(hg:o.guard=none)(ho:o.dst=some d)(hd:d<n)
  (hb:nth hp b=some blk0) (hw:blk0.wr=true) (hm:m<=b) (hop:Ju P o (St.ev ⟨n,fr,hp⟩) (nth hp) hp.length (QApp hp.length b i z es src flat))
  (h:∀es' i',i'<=es'.length->es'.drop i'=es.drop i++src->es'.length<=es.length+src.length->Ci P m ops r ⟨n,(d,.sl hp.length i' (es'.length-i'))::fr,hp.set b none++[some {es:=es',z,flat}]⟩ k):Ci P m ops (o::r) ⟨n,fr,hp⟩ k:=by
 refine .one (noG hg) hop (fun R hR=>?_) fun R hR=>?_
 .obtain⟨es',i',h1,h2,h3,rfl⟩:=hR
  exact⟨⟨fun b blk hm=>by simp at hm,fun b' hm'=>by simp at hm';subst hm';exact⟨⟨blk0,hb,hw⟩,rfl⟩⟩,fun b' hb'=>by simp at hb';subst hb';exact hm,fun d' h'=>by rw[ho] at h';cases h';exact hd⟩
 .obtain⟨es',i',h1,h2,h3,rfl⟩:=hR
  have e:St.app ⟨n,fr,hp⟩ o.dst {v:=.sl hp.length i' (es'.length-i'),dead:=[b],new:=[{es:=es',z,flat}]}=⟨n,(d,.sl hp.length i' (es'.length-i'))::fr,hp.set b none++[some {es:=es',z,flat}]⟩:=by
   unfold St.app;rw[ho];simp only[put,LG b hp 0 (Rn _),A5,Nat.sub_zero]
  rw[e];exact h es' i' h1 h2 h3
end Go.AX
namespace Go.Proofs.Ytifigemlifbkcaa
theorem _root_.Go.AX.B4.av{P:Program}{m:Nat}{o:Oper}{r:List Oper}{n d:Nat}{fr:List (Nat×AV)}{hp:List (Option Blk)}{st':St}(v:AV)(hg:o.guard=none)(ho:o.dst=some d)(hd:Nat.ble (d+1) n=true)(h:aop P o (St.ev ⟨n,fr,hp⟩) hp .no=some ({v},True))(k:B4 P m r ⟨n,(d,v)::fr,hp⟩ st'):B4 P m (o::r) ⟨n,fr,hp⟩ st':=.val hg ho (Ry hd) (DY h trivial).1 k
theorem _root_.Go.AX.Ci.av{P:Program}{m:Nat}{ops:Array Oper}{o:Oper}{r:List Oper}{n d:Nat}{fr:List (Nat×AV)}{hp:List (Option Blk)}{k:St->Prop}(v:AV)(hg:o.guard=none)(ho:o.dst=some d)(hd:Nat.ble (d+1) n=true)(h:aop P o (St.ev ⟨n,fr,hp⟩) hp .no=some ({v},True))(q:Ci P m ops r ⟨n,(d,v)::fr,hp⟩ k):Ci P m ops (o::r) ⟨n,fr,hp⟩ k:=.val (noG hg) ho (Ry hd) (DY h trivial).1 q
theorem N7{P:Program}{o:Oper}{ev:Operand->AV}{h:Hp}{nb:Nat}{t t' e:TypeId}{x y:Operand}(ho:o.op = .binOp .eql t x y t')(hu:P.underlying t=some (.slice e))(hx:ev x = .lst [])(hy:ev y = .nils):
  Ju P o ev h nb (fun R=>∃b,R={v:=.bool b}):=by
 intro φ A w a K Q hA hv hh hn k
 have h1:=hv x;rw[hx] at h1
 have h2:=hv y;rw[hy] at h2;have h2:=h2.nils_inv
 have hs:∃ad c,a.eval x = .slice ad 0 c:=by
  rcases h1.lst_inv with ⟨_,ad,he⟩ | ⟨r,o',cap,z,g,he,_⟩
  .exact⟨ad,0,he⟩
  .exact⟨_,cap,he⟩
 obtain⟨ad,c,he⟩:=hs
 have key:∃b,(execOp a.eval o).run P w = .ok (.value (.bool b)) w:=by
  have hg:(eqGuard .eql t x y (.slice ad 0 c) (.slice none 0 0)).run P w = .ok () w:=by unfold eqGuard;split<;>simp_all
  have hr:∃b,(Op.equal t (.slice ad 0 c) (.slice none 0 0)).run P w = .ok b w:=by
   have key:∀d,∃b,(Op.equalIn (d+1) t (.slice ad 0 c) (.slice none 0 0)).run P w = .ok b w:=by
    intro d
    cases ad with
    | none=>exact⟨true,by simp[Op.equalIn,run_underlying hu]⟩
    | some ad=>exact⟨false,by simp[Op.equalIn,run_underlying hu]⟩
   exact key 9999
  obtain⟨b,hr⟩:=hr
  refine⟨b,?_⟩
  simp only[execOp,ho,he,h2,Sem.run_bind,hg,Result.andThen_ok,binOp,hr];rfl
 obtain⟨b,hb⟩:=key
 have hv1:Ah P o ev h nb {v:=.bool b}->True:=fun _=>trivial
 unfold Oper.wp
 rw[hb]
 refine k {v:=.bool b} _ w φ ⟨b,rfl⟩ ⟨BO.refl _ w,fun _ _=>rfl,fun b hb=>hn b (by simpa using hb),fun b r z hb h=>?_,fun b b' r z z' hb _ h _=>?_,.imm _ _ (.bool _),fun b blk hm=>by simp at hm,fun blk hm=>by simp at hm,?_,?_⟩
 .rw[hn b hb] at h;cases h
 .rw[hn b hb] at h;cases h
 .intro b blk hm;simp at hm
 .intro b blk hm;simp at hm
theorem M4:CT Try.prog 70 [] [.lst []] [some (Blk.mk [] 1 true true none)] (.sl 0 0 0):=by
 refine CT.of Try.func70 (show Try.f70.body=some (zB Try.f70) from by kernel_rfl) (nL rfl) ?_
 refine T.seq ?_
 refine T.ops (st':=?st1) ?steps1 ?post1
 case steps1=>
  refine .av (.nils) rfl rfl rfl (by kernel_rfl) ?_
  exact .nil _
 show T Try.prog 0 _ _ _
 refine T.seq (T.seq ?_)
 refine T.opsN (.val (v:=.lst []) (noG rfl) rfl (nL rfl) (DY (hint:=.no) (R:={v:=.lst []}) (p:=True) (by kernel_rfl) trivial).1 (.one (S:=fun R=>∃b,R={v:=.bool b}) (noG rfl) (N7 (e:=3) rfl (by kernel_rfl) rfl rfl) (fun R hR=>?_) (fun R hR=>?_)))
 .obtain⟨b,rfl⟩:=hR
  exact⟨OpR.fits_value _ _,fun b hb=>by simp at hb,fun d hd=>by cases hd;exact nL rfl⟩
 obtain⟨b,rfl⟩:=hR
 refine .nil ?_
 cases b with
 | true=>
  refine T.cond_true rfl (T.seq ?_)
  refine T.ops (st':=?st2) ?steps2 ?post2
  case steps2=>
   refine .av (.nils) rfl rfl rfl (by kernel_rfl) ?_
   exact .nil _
  refine T.ret ?_
  refine⟨.inr rfl,.nils,⟨Try.f70.ntmps,[(0,.sl 0 0 0)],[some (Blk.mk [] 1 true true none)]⟩,rfl,Ren.less rfl (Rn _) (fun s=>?_) (fun b blk hb=>?_),rfl,rfl,(nL rfl)⟩
  .cases s with
   | zero=>exact .nilS _ _
   | succ s=>exact .refl _
  .cases b with
   | zero=>simp[nth] at hb;subst hb;exact .inr ⟨Rm _,rfl,rfl,rfl,rfl⟩
   | succ b=>simp[nth] at hb
 | false=>
  refine T.cond_false rfl (T.skip ?_)
  refine T.seq ?_
  refine T.ops (st':=?st3) ?steps3 ?post3
  case steps3=>
   refine .new (v:=.sl 0 0 0) (blk:=Blk.mk [] 1 true true none) rfl rfl (nL rfl) (DY (hint:=.no) (R:={v:=.sl 0 0 0,new:=[Blk.mk [] 1 true true none]}) (p:=True) (by kernel_rfl) trivial).1 ?_
   refine .av (.lst []) rfl rfl rfl (by kernel_rfl) ?_
   refine .move (v:=.sl 1 0 0) (b:=0) (blk:=Blk.mk [] 1 true true none) rfl rfl (nL rfl) rfl rfl (Rn _) (DY (hint:=.no) (R:={v:=.sl 1 0 0,dead:=[0],new:=[Blk.mk [] 1 true true none]}) (p:=0=0/\CZ (nth [some (Blk.mk [] 1 true true none)]) 1 (.lst [])/\0+0<=9223372036854775807/\(0+0) * 8<=140737488355328) (by kernel_rfl) ⟨rfl,(fun e he=>by cases he),(by omega),(by omega)⟩).1 ?_
   refine .av (.sl 1 0 0) rfl rfl rfl (by kernel_rfl) ?_
   exact .nil _
  refine T.ret ?_
  exact⟨.inr rfl,.sl 1 0 0,⟨Try.f70.ntmps,[(0,.sl 0 0 0)],[some (Blk.mk [] 1 true true none)]⟩,rfl,Ren.of (p:=True/\True/\True) [1] [] [0] (by kernel_rfl) ⟨trivial,trivial,trivial⟩ rfl rfl rfl,rfl,rfl,(nL rfl)⟩
theorem NX:CT Try.prog 69 [] [.lst []] [some (Blk.mk [] 5 true true none)] (.sl 0 0 0):=by
 refine CT.of Try.func69 (show Try.f69.body=some (zB Try.f69) from by kernel_rfl) (nL rfl) ?_
 refine T.seq ?_
 refine T.ops (st':=?st1) ?steps1 ?post1
 case steps1=>
  refine .av (.nils) rfl rfl rfl (by kernel_rfl) ?_
  exact .nil _
 show T Try.prog 0 _ _ _
 refine T.seq (T.seq ?_)
 refine T.opsN (.val (v:=.lst []) (noG rfl) rfl (nL rfl) (DY (hint:=.no) (R:={v:=.lst []}) (p:=True) (by kernel_rfl) trivial).1 (.one (S:=fun R=>∃b,R={v:=.bool b}) (noG rfl) (N7 (e:=44) rfl (by kernel_rfl) rfl rfl) (fun R hR=>?_) (fun R hR=>?_)))
 .obtain⟨b,rfl⟩:=hR
  exact⟨OpR.fits_value _ _,fun b hb=>by simp at hb,fun d hd=>by cases hd;exact nL rfl⟩
 obtain⟨b,rfl⟩:=hR
 refine .nil ?_
 cases b with
 | true=>
  refine T.cond_true rfl (T.seq ?_)
  refine T.ops (st':=?st2) ?steps2 ?post2
  case steps2=>
   refine .av (.nils) rfl rfl rfl (by kernel_rfl) ?_
   exact .nil _
  refine T.ret ?_
  refine⟨.inr rfl,.nils,⟨Try.f69.ntmps,[(0,.sl 0 0 0)],[some (Blk.mk [] 5 true true none)]⟩,rfl,Ren.less rfl (Rn _) (fun s=>?_) (fun b blk hb=>?_),rfl,rfl,(nL rfl)⟩
  .cases s with
   | zero=>exact .nilS _ _
   | succ s=>exact .refl _
  .cases b with
   | zero=>simp[nth] at hb;subst hb;exact .inr ⟨Rm _,rfl,rfl,rfl,rfl⟩
   | succ b=>simp[nth] at hb
 | false=>
  refine T.cond_false rfl (T.skip ?_)
  refine T.seq ?_
  refine T.ops (st':=?st3) ?steps3 ?post3
  case steps3=>
   refine .new (v:=.sl 0 0 0) (blk:=Blk.mk [] 5 true true none) rfl rfl (nL rfl) (DY (hint:=.no) (R:={v:=.sl 0 0 0,new:=[Blk.mk [] 5 true true none]}) (p:=True) (by kernel_rfl) trivial).1 ?_
   refine .av (.lst []) rfl rfl rfl (by kernel_rfl) ?_
   refine .move (v:=.sl 1 0 0) (b:=0) (blk:=Blk.mk [] 5 true true none) rfl rfl (nL rfl) rfl rfl (Rn _) (DY (hint:=.no) (R:={v:=.sl 1 0 0,dead:=[0],new:=[Blk.mk [] 5 true true none]}) (p:=0=0/\CZ (nth [some (Blk.mk [] 5 true true none)]) 5 (.lst [])/\0+0<=9223372036854775807/\(0+0) * 40<=140737488355328) (by kernel_rfl) ⟨rfl,(fun e he=>by cases he),(by omega),(by omega)⟩).1 ?_
   refine .av (.sl 1 0 0) rfl rfl rfl (by kernel_rfl) ?_
   exact .nil _
  refine T.ret ?_
  exact⟨.inr rfl,.sl 1 0 0,⟨Try.f69.ntmps,[(0,.sl 0 0 0)],[some (Blk.mk [] 5 true true none)]⟩,rfl,Ren.of (p:=True/\True/\True) [1] [] [0] (by kernel_rfl) ⟨trivial,trivial,trivial⟩ rfl rfl rfl,rfl,rfl,(nL rfl)⟩
theorem CT.nought{P:Program}{f:FuncId}{args:List AV}{blk:Blk}(h:CT P f [] args [some blk] (.sl 0 0 0)):CT P f [] args [] (.lst []):=by
 intro φ A w vs h1 h2 h3 h4 h5
 refine(h φ A w vs h1 h2 h3 h4 h5).mono fun e w' ⟨v,φ',he,C⟩=>⟨v,fun _=>none,he,?_⟩
 have hv:RT (Ok A w.heap.size (fun _=>none) (nth ([]:List (Option Blk))) w') w' (.lst []) v:=by
  rcases C.val.sl_inv with ⟨_,a,rfl⟩ | ⟨r,z,cap,_,_,_,rfl⟩
  .exact .lnil a
  .exact .lst [] r _ cap 0 (fun _ _=>.bool false) (Rn _) (fun h=>absurd rfl h) (fun e he=>nomatch he) (fun e he=>nomatch he) (fun i j hi=>nomatch hi) (fun i j e c he=>nomatch he)
 refine⟨(fun b hb=>by cases hb),C.keep,?_,⟨?_,?_,?_⟩,.imm _ _ hv,fun _ _=>rfl,Rm _,(fun b r z _ hb=>by cases hb)⟩
 .rintro r ⟨b,blk',z,g,_⟩;simp[nth] at g
 .intro b blk' g;simp[nth] at g
 .intro b blk' g;simp[nth] at g
 .intro b b' r z z' g;simp[nth] at g
theorem Ey(l:List FrD):∀e∈l.map frA,e.cells.length=5:=fun e he=>by obtain⟨x,_,rfl⟩:=RF.1 he;rfl
theorem Jr(l:List FrD)(hl:l.length<=1000000):CT Try.prog 69 [] [.lst (l.map frA)] [] (.lst (l.map frA)):=by
 by_cases h:l=[]
 .subst h;exact CT.nought NX
 refine cla_ct l ([],_) (.val ?_)
 unfold JW
 rw[Ac (fun e=>h (List.map_eq_nil_iff.1 e)),Ac (Ey _),Ac (by rw[Re];omega),Ac (by rw[Re];omega),List.nil_append]
theorem cli_c(l:List Int)(hl:l.length<=1000000):CT Try.prog 70 [] [lI l] [] (lI l):=by
 by_cases h:l=[]
 .subst h;exact CT.nought M4
 refine cli_ct l ([],_) (.val ?_)
 unfold KM
 rw[Ac (fun e=>h (List.map_eq_nil_iff.1 e)),Ac (fun e he=>by obtain⟨x,_,rfl⟩:=RF.1 he;rfl),Ac (by rw[Re];omega),Ac (by rw[Re];omega),List.nil_append]
theorem Bn{α:Type}(g:α->AV)(l:List α):iN (List.map g l).length=(l.length:Int):=by simp[iN]
def BN(l:List FrD)(q:Int):Bool:=decide ((l.length:Int)<=6)&&(decide (0<=q)&&decide (q<(l.length:Int)))
theorem chs_c(l:List FrD)(q:Int):CT Try.prog 103 [] [.lst (l.map frA),.int .i64 q] [] (.bool (BN l q)):=by
 refine chs_ct l q ([],_) (.val ?_)
 unfold KE BN
 rw[Bn]
 cases decide ((l.length:Int)<=6)<;>cases decide (0<=q)<;>rfl
theorem rhs_c(l:List FrD)(q:Int):CT Try.prog 106 [] [.lst (l.map frA),.int .i64 q] [] (.bool (BN l q)):=by
 refine rhs_ct l q ([],_) (.val ?_)
 unfold JS BN
 rw[Bn]
 cases decide ((l.length:Int)<=6)<;>cases decide (0<=q)<;>rfl
structure OfD where
 s:SeD
 e:Int
def ofA(x:OfD):AV:=.tup [seA x.s,.int .i64 x.e]
def se0:SeD:=⟨0,false,0,0⟩
def AR(x:SeD)(q w:Int):OfD:=bif decide (q<0) then ⟨se0,19⟩ else bif decide (48<=q) then ⟨se0,19⟩ else bif decide (w<0) then ⟨se0,19⟩ else bif decide (1<w) then ⟨se0,19⟩ else
 bif x.o then ⟨se0,23⟩ else ⟨⟨x.q+1,true,q,w⟩,0⟩
theorem M1{x:Int}(h1:0<=x)(h2:x<=18446744073709551615):u64.wrap x=x:=by simp only[IntKind.wrap,IntKind.bits,IntKind.signed];simp;omega
theorem ofr_c(x:SeD)(q w:Int)(hq:0<=x.q/\x.q<=1000000):CT Try.prog 51 [] [seA x,.int .i64 q,.int .i64 w] [] (ofA (AR x q w)):=by
 refine ofr_ct x q w ([],_) (.val ?_)
 unfold Kk AR
 rw[M1 (by omega) (by omega),show(x.q==18446744073709551615)=false from RL.2 (by omega)]
 cases decide (q<0)<;>cases decide (48<=q)<;>cases decide (w<0)<;>cases decide (1<w)<;>cases x.o<;>rfl
theorem rof_c(x:SeD)(q w:Int)(hq:0<=x.q/\x.q<=1000000):CT Try.prog 74 [] [seA x,.int .i64 q,.int .i64 w] [] (ofA (AR x q w)):=by
 refine rof_ct x q w ([],_) (.val ?_)
 unfold JO AR
 rw[M1 (by omega) (by omega),show(x.q+1==0)=false from RL.2 (by omega)]
 cases decide (q<0)<;>cases decide (48<=q)<;>cases decide (w<0)<;>cases decide (1<w)<;>cases x.o<;>rfl
structure OuD where
 x:FrD
 o:Bool
def ouA(x:OuD):AV:=.tup [frA x.x,.bool x.o]
def AW(x:SeD)(q:Int):OuD:=bif x.o then ⟨⟨1,q,x.q,x.c,x.f⟩,true⟩ else ⟨fr0,false⟩
theorem K9(x:SeD)(q:Int):CT Try.prog 53 [] [seA x,.int .i64 q] [] (ouA (AW x q)):=by
 refine sou_ct x q ([],_) (.val ?_)
 unfold LW AW
 cases x.o<;>rfl
theorem JZ(x:SeD)(q:Int):CT Try.prog 75 [] [seA x,.int .i64 q] [] (ouA (AW x q)):=by
 refine rso_ct x q ([],_) (.val ?_)
 unfold JE AW
 cases x.o<;>rfl
structure CfD where
 s:SeD
 o:Bool
def cfA(x:CfD):AV:=.tup [seA x.s,.bool x.o]
def Cy(x:SeD)(q:Int):CfD:=bif x.o&&q==x.q then ⟨⟨x.q,false,x.c,x.f⟩,true⟩ else ⟨x,false⟩
theorem cfm_c(x:SeD)(q:Int):CT Try.prog 104 [] [seA x,.int .u64 q] [] (cfA (Cy x q)):=by
 refine cfm_ct x q ([],_) (.val ?_)
 unfold LA Cy
 obtain⟨s,o,c,f⟩:=x
 simp only[bne,beq_self_eq_true,Bool.true_and,Bool.and_true]
 cases q==s<;>cases o<;>rfl
theorem rcf_c(x:SeD)(q:Int):CT Try.prog 96 [] [seA x,.int .u64 q] [] (cfA (Cy x q)):=by
 refine rcf_ct x q ([],_) (.val ?_)
 unfold LX Cy
 obtain⟨s,o,c,f⟩:=x
 have e:(s==q)=(q==s):=by rw[Bool.eq_iff_iff,beq_iff_eq,beq_iff_eq];exact⟨Eq.symm,Eq.symm⟩
 simp only[bne,e]
 cases q==s<;>cases o<;>rfl
structure EvD where
 k:Int
 a:Int
 b:Int
def evA(x:EvD):AV:=.agg [.int .i64 x.k,.int .i64 x.a,.int .i64 x.b,.str (ByteArray.mk #[])]
theorem JK(L:List Int)(kk:Nat):∃p:EvD×Nat,kk<=1000000->p.2<=kk+6/\CT Try.prog 34 [some (Ab L kk)] [.ptr 0 0 0] [some (Ab L p.2)] (evA p.1):=by
 by_cases hk:kk<=1000000
 .obtain⟨p,h2,h3⟩:∃p:EvD×Nat,p.2<=kk+6/\Iz L kk=some (.inr ([some (Ab L p.2)],evA p.1)):=by
   unfold Iz
   repeat rw[Ac (by omega)]
   cases Ae L (kk+1+1) 12==0<;>exact⟨(⟨_,_,_⟩,_),by simp only;omega,rfl⟩
  exact⟨p,fun _=>⟨h2,evt_ct L kk ([_],_) (.val h3)⟩⟩
 .exact⟨(⟨0,0,0⟩,0),fun h=>absurd h hk⟩
@[irreducible] def Hf(L:List Int)(kk:Nat):EvD:=(Classical.choose (JK L kk)).1
@[irreducible] def GK(L:List Int)(kk:Nat):Nat:=(Classical.choose (JK L kk)).2
theorem Om{L:List Int}{kk:Nat}(h:kk<=1000000):GK L kk<=kk+6/\CT Try.prog 34 [some (Ab L kk)] [.ptr 0 0 0] [some (Ab L (GK L kk))] (evA (Hf L kk)):=by
 unfold Hf GK;exact RO (JK L kk) h
theorem evt_c(L:List Int)(kk:Nat)(h:kk<=1000000):CT Try.prog 34 [some (Ab L kk)] [.ptr 0 0 0] [some (Ab L (GK L kk))] (evA (Hf L kk)):=(Om h).2
def AE(l:List FrD)(x:FrD):List FrD:=if 6<l.length then [] else if l.length<6 then l++[x] else l
theorem sen_c(l:List FrD)(x:FrD):CT Try.prog 54 [] [.lst (l.map frA),frA x] [] (.lst ((AE l x).map frA)):=by
 unfold AE
 by_cases h:6<l.length
 .rw[if_pos h]
  exact(Oj l x ([],_) (.val (show Hn l x=_ by unfold Hn;rw[Bn,Au (AN (by omega))]))).to rfl rfl
 .rw[if_neg h]
  have e0:∀a:AV,([]++List.take (min (List.map frA l).length (List.map frA l).length) (List.map frA l)++List.drop (0+min (List.map frA l).length (List.map frA l).length) (List.replicate (List.map frA l).length a))=List.map frA l:=by
   intro a;simp;exact List.take_of_length_le (by simp)
  refine Oj l x ([],_) (.val ?_)
  unfold Hn
  rw[Bn,e0,Ao (AF (by omega)),Ac (by omega),Ac (Ey _)]
  by_cases h2:l.length<6
  .rw[Au (AN (by omega)),Ac (by simp only[Re,RP];omega),Ac (by simp only[Re,RP];omega),if_pos h2,Ro];rfl
  .rw[Ao (AF (by omega)),if_neg h2]
theorem En(l:List FrD)(x:FrD):CT Try.prog 76 [] [.lst (l.map frA),frA x] [] (.lst ((AE l x).map frA)):=by
 unfold AE
 by_cases h:6<l.length
 .rw[if_pos h]
  exact(Nh l x ([],_) (.val (show Hm l x=_ by unfold Hm;rw[Bn,Au (AN (by omega))]))).to rfl rfl
 .rw[if_neg h]
  refine Nh l x ([],_) (.val ?_)
  unfold Hm
  rw[Bn,Ao (AF (by omega)),Ac (Ey _),Ac (by rw[Re];omega),Ac (by rw[Re];omega)]
  by_cases h2:l.length<6
  .rw[Au (AN (by omega)),Ac (by simp only[Re,RP];omega),Ac (by simp only[Re,RP];omega),if_pos h2,Ro];rfl
  .rw[Ao (AF (by omega)),if_neg h2]
structure RaD where
 s:SeD
 a:AgD
 b:BdD
 dn:List FrD
 up:List FrD
 of:List Int
 en:List Int
def raA(x:RaD):AV:=.agg [.int .u64 x.s.q,.bool x.s.o,.int .i64 x.s.c,.int .i64 x.s.f,.int .u64 x.a.l,.int .i64 x.a.t,.bool x.a.s,.int .i64 x.a.r,.int .i64 x.a.c,
 .int .i64 x.b.c,.int .i64 x.b.t,.bool x.b.s,.bool x.b.f,.lst (x.dn.map frA),.lst (x.up.map frA),lI x.of,lI x.en]
def iB(l:List Int):Blk:=Blk.mk (l.map (AV.int .i64)) 1 true true none
def raL(s:SeD)(a:AgD)(b:BdD)(dn up:List FrD)(i j:AV):AV:=.agg [.int .u64 s.q,.bool s.o,.int .i64 s.c,.int .i64 s.f,.int .u64 a.l,.int .i64 a.t,.bool a.s,.int .i64 a.r,.int .i64 a.c,
 .int .i64 b.c,.int .i64 b.t,.bool b.s,.bool b.f,.lst (dn.map frA),.lst (up.map frA),i,j]
def rdeSt(l:List FrD)(q:Int):Empty->St
 | x=>x.elim
def rdeHd:Empty->Nat
 | x=>x.elim
def GJ(l:List FrD)(q:Int):Option (Empty⊕Ret):=
 br (!BN l q)
 (some (.inr ([],AV.tup [AV.agg [iV 0,iV 0,uV 0,iV 0,iV 0],AV.nils,bV false])))
 (gu (0<=q) <|
  el l (q.toNat) fun(x14:FrD)=>
  gu (∀(e:AV),e∈List.map frA l->e.cells.length=5) <|
  gu (q<=iN (List.map frA l).length) <|
  gu (∀(e:AV),e∈List.take (q.toNat-Int.toNat 0) (List.drop (Int.toNat 0) (List.map frA l))->e.cells.length=5) <|
  gu ((List.take (q.toNat-Int.toNat 0) (List.drop (Int.toNat 0) (List.map frA l))).length<=9223372036854775807) <|
  gu ((List.take (q.toNat-Int.toNat 0) (List.drop (Int.toNat 0) (List.map frA l))).length * 40<=140737488355328) <|
  gu (0<=i64.wrap (q+1)) <|
  gu (i64.wrap (q+1)<=iN (List.map frA l).length) <|
  gu (∀(e:AV),e∈List.take ((List.map frA l).length-(i64.wrap (q+1)).toNat) (List.drop (i64.wrap (q+1)).toNat (List.map frA l))->e.cells.length=5) <|
  gu ((List.take (q.toNat-Int.toNat 0) (List.drop (Int.toNat 0) (List.map frA l))).length+(List.take ((List.map frA l).length-(i64.wrap (q+1)).toNat) (List.drop (i64.wrap (q+1)).toNat (List.map frA l))).length<=9223372036854775807) <|
  gu (((List.take (q.toNat-Int.toNat 0) (List.drop (Int.toNat 0) (List.map frA l))).length+(List.take ((List.map frA l).length-(i64.wrap (q+1)).toNat) (List.drop (i64.wrap (q+1)).toNat (List.map frA l))).length) * 40<=140737488355328) <|
  some (.inr ([],AV.tup [AV.agg [iV x14.k,iV x14.r,uV x14.q,iV x14.c,iV x14.f],AV.lst (List.take (q.toNat-Int.toNat 0) (List.drop (Int.toNat 0) (List.map frA l))++List.take ((List.map frA l).length-(i64.wrap (q+1)).toNat) (List.drop (i64.wrap (q+1)).toNat (List.map frA l))),bV true])))
def rdeStep(l:List FrD)(q:Int):Empty->Option (Empty⊕Ret)
 | x=>x.elim
theorem rdeEn_ok(l:List FrD)(q:Int)(o:Empty⊕Ret)(h:GJ l q=some o):Arr Try.prog Try.f94 0 (rdeSt l q) rdeHd (zB Try.f94) [] {n:=Try.f94.ntmps,fr:=An 0 ([.lst (l.map frA),.int .i64 q]),hp:=([])} o:=
 Scr.ok h mix (
 have c0:=rhs_c l (q);
 .rn 1 [] [] [(9,hK c0 [] [])] [] (aj t4 (al (u2 (u2 (aj (ak (k3 (al (c0)))) s2))))) <|
 .br (fun a0=>
 .rt [21] [] [] [] [] [] (aj (aj a0 (al (ak (aj (k2 n11) t3)))) (al (aj t6 t3))))
 (fun a0=>
 .gu fun a1=>
 .el fun x14 a2=>
 .gu fun a3=>
 .gu fun a4=>
 .gu fun a5=>
 .gu fun a6=>
 .gu fun a7=>
 .gu fun a8=>
 .gu fun a9=>
 .gu fun a10=>
 .gu fun a11=>
 .gu fun a12=>
 .rt [20] [(14,frA x14)] [] [] [] [2] (aj (aj a0 (al (u2 (u2 (aj (k2 (aj a1 (A2 (f:=frA) a2))) (u2 (u2 (u2 (aj (k2 (aj a3 (aj (show(0:Int)<=(0:Int) from(by first | exact nL rfl | decide)) (aj a1 (aj a4 (show iN (List.map frA l).length<=iN (List.map frA l).length by omega)))))) (aj (ak (aj a5 (aj a6 a7))) (u2 (u2 (u2 (aj (k2 (aj a3 (aj a8 (aj a9 (aj (show iN (List.map frA l).length<=iN (List.map frA l).length by omega) (show iN (List.map frA l).length<=iN (List.map frA l).length by omega)))))) (aj (k2 (aj (show(List.take (q.toNat-Int.toNat 0) (List.drop (Int.toNat 0) (List.map frA l))).length=(List.take (q.toNat-Int.toNat 0) (List.drop (Int.toNat 0) (List.map frA l))).length from rfl) (aj a10 (aj a11 a12)))) (aj (k2 n11) (u2 t2))))))))))))))))) (al (aj t6 (aj (show(List.take (q.toNat-Int.toNat 0) (List.drop (Int.toNat 0) (List.map frA l))).length+(List.take ((List.map frA l).length-(i64.wrap (q+1)).toNat) (List.drop (i64.wrap (q+1)).toNat (List.map frA l))).length=(List.take (q.toNat-Int.toNat 0) (List.drop (Int.toNat 0) (List.map frA l))++List.take ((List.map frA l).length-(i64.wrap (q+1)).toNat) (List.drop (i64.wrap (q+1)).toNat (List.map frA l))).length by simp) t2)))))) (by kernel_rfl)
theorem Mq(l:List FrD)(q:Int)(r:Ret)(h:Aj (rdeStep l q) (GJ l q) r):CT Try.prog 94 ([]) ([.lst (l.map frA),.int .i64 q]) r.1 r.2:=
 CT.mach (fn:=Try.f94) (c:=zB Try.f94) (S:=rdeSt l q) (hd:=rdeHd) Try.func94 (by kernel_rfl) (nL rfl)
  (fun s o ho=>match s,ho with
   | x,_=>x.elim)
  (fun o ho=>rdeEn_ok l q o ho) h
def rdoSt(l:List FrD)(q:Int):Empty->St
 | x=>x.elim
def rdoHd:Empty->Nat
 | x=>x.elim
def G9(l:List FrD)(q:Int):Option (Empty⊕Ret):=
 br (!BN l q)
 (some (.inr ([],AV.tup [AV.nils,bV false])))
 (gu (0<=q) <|
  el l (q.toNat) fun(x13:FrD)=>
  some (.inr ([],AV.tup [AV.lst (List.map frA (AE l x13)),bV true])))
def rdoStep(l:List FrD)(q:Int):Empty->Option (Empty⊕Ret)
 | x=>x.elim
theorem rdoEn_ok(l:List FrD)(q:Int)(o:Empty⊕Ret)(h:G9 l q=some o):Arr Try.prog Try.f98 0 (rdoSt l q) rdoHd (zB Try.f98) [] {n:=Try.f98.ntmps,fr:=An 0 ([.lst (l.map frA),.int .i64 q]),hp:=([])} o:=
 Scr.ok h mix (
 have c0:=rhs_c l (q);
 .rn 1 [] [] [(8,hK c0 [] [])] [] (aj t3 (al (u2 (u2 (aj (ak (k3 (al (c0)))) s2))))) <|
 .br (fun a0=>
 .rt [19] [] [] [] [] [] (aj (aj a0 (al t3)) (al t3)))
 (fun a0=>
 .gu fun a1=>
 .el fun x13 a2=>
 have c1:=En l (x13);
 .rt [18] [(13,frA x13)] [(15,hK c1 [] [])] [] [] [] (aj (aj a0 (al (u2 (u2 (u2 (aj (k2 (aj a1 (A2 (f:=frA) a2))) (u2 (aj (k3 (aj t6 (al (c1)))) (u2 t2))))))))) (al t3)))) (by kernel_rfl)
theorem Nz(l:List FrD)(q:Int)(r:Ret)(h:Aj (rdoStep l q) (G9 l q) r):CT Try.prog 98 ([]) ([.lst (l.map frA),.int .i64 q]) r.1 r.2:=
 CT.mach (fn:=Try.f98) (c:=zB Try.f98) (S:=rdoSt l q) (hd:=rdoHd) Try.func98 (by kernel_rfl) (nL rfl)
  (fun s o ho=>match s,ho with
   | x,_=>x.elim)
  (fun o ho=>rdoEn_ok l q o ho) h
def rclSt(x:RaD):Empty->St
 | x=>x.elim
def rclHd:Empty->Nat
 | x=>x.elim
abbrev rV (s : SeD) (a : AgD) (b : BdD) (l : List AV) : AV := .agg (.int .u64 s.q :: .bool s.o :: .int .i64 s.c :: .int .i64 s.f :: .int .u64 a.l :: .int .i64 a.t :: .bool a.s :: .int .i64 a.r :: .int .i64 a.c :: .int .i64 b.c :: .int .i64 b.t :: .bool b.s :: .bool b.f :: l)
def Kp(x:RaD):Option (Empty⊕Ret):=
 gu (x.dn.length<=1000000) <|
 gu (x.up.length<=1000000) <|
 gu (x.of.length<=1000000) <|
 gu (x.en.length<=1000000) <|
 some (.inr ([],rV x.s x.a x.b [AV.lst (List.map frA x.dn),AV.lst (List.map frA x.up),AV.lst (List.map iV x.of),AV.lst (List.map iV x.en)]))
def rclStep(x:RaD):Empty->Option (Empty⊕Ret)
 | x=>x.elim
theorem rclEn_ok(x:RaD)(o:Empty⊕Ret)(h:Kp x=some o):Arr Try.prog Try.f52 0 (rclSt x) rclHd (zB Try.f52) [] {n:=Try.f52.ntmps,fr:=An 0 ([raA x]),hp:=([])} o:=
 Scr.ok h mix (
 .rn 0 [] [] [] [] (al (u2 t2)) <|
 .gu fun a0=>
 .gu fun a1=>
 .gu fun a2=>
 .gu fun a3=>
 have c0:=Jr (x.dn) a0;
 have c1:=Jr (x.up) a1;
 have c2:=cli_c (x.of) a2;
 have c3:=cli_c (x.en) a3;
 .rt [] [] [(5,hK c0 [] []),(8,hK c1 [] []),(11,hK c2 [] []),(14,hK c3 [] [])] [] [] [] (aj (aj (u2 (u2 (aj (k2 (al (c0))) (u2 (u2 (aj (k2 (al (c1))) (u2 (u2 (aj (k2 (al (c2))) (u2 (u2 (aj (k2 (al (c3))) (u2 (aj t3 (u2 (aj t3 (u2 (aj t3 (u2 (al t3)))))))))))))))))))) (al (u2 (al (k2 n11))))) (al (ak (k3 (k5 t9)))))) (by kernel_rfl)
theorem rcl_ct(x:RaD)(r:Ret)(h:Aj (rclStep x) (Kp x) r):CT Try.prog 52 ([]) ([raA x]) r.1 r.2:=
 CT.mach (fn:=Try.f52) (c:=zB Try.f52) (S:=rclSt x) (hd:=rclHd) Try.func52 (by kernel_rfl) (nL rfl)
  (fun s o ho=>match s,ho with
   | x,_=>x.elim)
  (fun o ho=>rclEn_ok x o ho) h
inductive D7 where
 | l0 (v0:List FrD) (v1:Int)
def Jp(l m:List FrD):D7->St
 | .l0 v0 v1=>St.mk 19 [(0,AV.lst (List.map frA v0)),(1,AV.lst (List.map frA m)),(5,iv v1)] []
def KW:D7->Nat
 | .l0 _ _=>0
def KS(l m:List FrD):Option (D7⊕Ret):=
 some (.inl (.l0 l ((0:Int))))
def Gy(l m:List FrD)(v0:List FrD)(v1:Int):Option (D7⊕Ret):=
 br (decide (v1<iN (List.map frA m).length))
 (gu (0<=v1) <|
  el m (v1.toNat) fun(x15:FrD)=>
  some (.inl (.l0 (AE v0 x15) (i64.wrap (v1+1)))))
 (some (.inr ([],AV.lst (List.map frA v0))))
def ralStep(l m:List FrD):D7->Option (D7⊕Ret)
 | .l0 v0 v1=>Gy l m v0 v1
theorem ralEn_ok(l m:List FrD)(o:D7⊕Ret)(h:KS l m=some o):Arr Try.prog Try.f95 0 (Jp l m) KW (zB Try.f95) [] {n:=Try.f95.ntmps,fr:=An 0 ([.lst (l.map frA),.lst (m.map frA)]),hp:=([])} o:=
 Scr.ok h mix (
 .lp [] [] [] [] [] [] [0,1,5] (aj (u2 s2) t4)) (by kernel_rfl)
theorem ralS0_ok(l m:List FrD)(v0:List FrD)(v1:Int)(o:D7⊕Ret)(h:Gy l m v0 v1=some o):Arr Try.prog Try.f95 0 (Jp l m) KW (AM Try.f95 0) (.rnd (AM Try.f95 0)::Bw Try.f95 0) (Jp l m (.l0 v0 v1)) o:=
 Scr.ok h mix (
 .rn 0 [] [] [] [] (al (u2 (u2 (u2 (al t3))))) <|
 .br (fun a0=>
 .gu fun a1=>
 .el fun x15 a2=>
 have c0:=En v0 (x15);
 .lp [19] [(15,frA x15)] [(17,hK c0 [] [])] [] [] [] [0,1,5] (aj (aj a0 (aj (u2 (u2 (u2 (aj (k2 (aj a1 (A2 (f:=frA) a2))) (u2 (aj (k3 (aj t6 (al (c0)))) s2)))))) (al (u2 (u2 s2))))) t4))
 (fun a0=>
 .rt [18] [] [] [] [] [] (aj (aj a0 (al (u2 s2))) t2))) (by kernel_rfl)
theorem ral_ct(l m:List FrD)(r:Ret)(h:Aj (ralStep l m) (KS l m) r):CT Try.prog 95 ([]) ([.lst (l.map frA),.lst (m.map frA)]) r.1 r.2:=
 CT.mach (fn:=Try.f95) (c:=zB Try.f95) (S:=Jp l m) (hd:=KW) Try.func95 (by kernel_rfl) (nL rfl)
  (fun s o ho=>match s,ho with
   | .l0 v0 v1,ho=>ralS0_ok l m v0 v1 o ho
  )
  (fun o ho=>ralEn_ok l m o ho) h
def cplSt(n:Aa)(q:Int):Empty->St
 | x=>x.elim
def cplHd:Empty->Nat
 | x=>x.elim
def Lv(n:Aa)(q:Int):Option (Empty⊕Ret):=
 gu (Rows n.nx) <|
 br (ckE n q != 0)
 (some (.inr ([],AV.tup [iV 0,iV 0,iV (ckE n q)])))
 (gu (Aq n) <|
  gu (-1000<=q/\q<=1000) <|
  some (.inr ([],AV.tup [iV (plI n q),iV (plJ n q),iV 0])))
def cplStep(n:Aa)(q:Int):Empty->Option (Empty⊕Ret)
 | x=>x.elim
theorem cplEn_ok(n:Aa)(q:Int)(o:Empty⊕Ret)(h:Lv n q=some o):Arr Try.prog Try.f50 0 (cplSt n q) cplHd (zB Try.f50) [] {n:=Try.f50.ntmps,fr:=An 0 ([Ad n,.int .i64 q]),hp:=([])} o:=
 Scr.ok h mix (
 .rn 0 [] [] [] [] (al (u2 t4)) <|
 .gu fun a0=>
 have c0:=ck_c n q a0;
 .rn 1 [] [] [(12,hK c0 [] [])] [] (aj (u2 (u2 (aj (k2 (aj t9 (ak (al (c0))))) s2))) (al (u2 s2))) <|
 .br (fun a1=>
 .rt [29] [] [] [] [] [] (aj (aj a1 (al (u2 (k2 s2)))) (al t4)))
 (fun a1=>
 .gu fun a2=>
 .gu fun a3=>
 have c1:=MV a2 q a3;
 .rt [28] [] [(19,hK c1 [] [])] [] [] [] (aj (aj a1 (aj (u2 (u2 (aj (k2 (aj t9 (ak (al (c1))))) (u2 (u2 (u2 (u2 s2))))))) (al (u2 (u2 (u2 (u2 t2))))))) (al t4)))) (by kernel_rfl)
theorem cpl_ct(n:Aa)(q:Int)(r:Ret)(h:Aj (cplStep n q) (Lv n q) r):CT Try.prog 50 ([]) ([Ad n,.int .i64 q]) r.1 r.2:=
 CT.mach (fn:=Try.f50) (c:=zB Try.f50) (S:=cplSt n q) (hd:=cplHd) Try.func50 (by kernel_rfl) (nL rfl)
  (fun s o ho=>match s,ho with
   | x,_=>x.elim)
  (fun o ho=>cplEn_ok n q o ho) h
def rrnSt(n:Aa)(q:Int):Empty->St
 | x=>x.elim
def rrnHd:Empty->Nat
 | x=>x.elim
def E2(n:Aa)(q:Int):Option (Empty⊕Ret):=
 gu (Rows n.nx) <|
 br (!BK n)
 (some (.inr ([],AV.tup [AV.agg [uV 0,bV false,iV 0,iV 0,uV 0,iV 0,bV false,iV 0,iV 0,iV 0,iV 0,bV false,bV false,AV.nils,AV.nils,AV.nils,AV.nils],iV 20])))
 (br (decide (q<0))
  (some (.inr ([],AV.tup [AV.agg [uV 0,bV false,iV 0,iV 0,uV 0,iV 0,bV false,iV 0,iV 0,iV 0,iV 0,bV false,bV false,AV.nils,AV.nils,AV.nils,AV.nils],iV 19])))
  (gu (Aq n) <|
   br (decide (iN (Az n)<=q))
   (some (.inr ([],AV.tup [AV.agg [uV 0,bV false,iV 0,iV 0,uV 0,iV 0,bV false,iV 0,iV 0,iV 0,iV 0,bV false,bV false,AV.nils,AV.nils,AV.nils,AV.nils],iV 19])))
   (some (.inr ([],AV.tup [AV.agg [uV 0,bV false,iV 0,iV 0,uV ag0.l,iV ag0.t,bV false,iV ag0.r,iV ag0.c,iV q,iV (-1),bV false,bV false,AV.nils,AV.nils,AV.nils,AV.nils],iV 0])))))
def rrnStep(n:Aa)(q:Int):Empty->Option (Empty⊕Ret)
 | x=>x.elim
theorem rrnEn_ok(n:Aa)(q:Int)(o:Empty⊕Ret)(h:E2 n q=some o):Arr Try.prog Try.f56 0 (rrnSt n q) rrnHd (zB Try.f56) [] {n:=Try.f56.ntmps,fr:=An 0 ([Ad n,.int .i64 q]),hp:=([])} o:=
 Scr.ok h mix (
 .rn 0 [] [] [] [] (al (u2 t3)) <|
 .gu fun a0=>
 have c0:=LN a0;
 .rn 0 [] [] [(7,hK c0 [] [])] [] (al (u2 (aj (ak (aj t9 (al (c0)))) s2))) <|
 .br (fun a1=>
 .rt [17] [] [] [] [] [] (aj (aj a1 (al (ak (aj (k2 n11) t2)))) (al (aj (ak (k3 (k5 t9))) t2))))
 (fun a1=>
 .br (fun a2=>
  .rt [16,25] [] [] [] [] [] (aj (aj a1 (aj (u2 (u2 (u2 (aj a2 (aj a2 (aj a2 (aj a2 (al (aj a2 t2))))))))) (ak (al (ak (aj (k2 n11) t2)))))) (al (aj (ak (k3 (k5 t9))) t2))))
 (fun a2=>
  .gu fun a3=>
  have c1:=DB a3;
  .rn 0 [16,24] [] [(15,hK c1 [] [])] [] (aj a1 (al (u2 (u2 (u2 (ag a2 (ag a2 (aj (aj a2 (ak (aj t9 (al (c1))))) (aj (aj a2 t3) (al (aj a2 t2))))))))))) <|
  .br (fun a4=>
  .rt [24,35] [] [] [] [] [] (aj (aj a4 (al (ak (aj (k2 n11) t2)))) (al (aj (ak (k3 (k5 t9))) t2))))
  (fun a4=>
  have c2:=ran_c;
  .rt [24,34] [] [(19,hK c2 [] [])] [] [] [] (aj (aj a4 (al (aj (al (c2)) (u2 (u2 (aj t3 (aj (k2 n11) t2))))))) (al (aj (ak (k3 (k5 t9))) t2))))))) (by kernel_rfl)
theorem rrn_ct(n:Aa)(q:Int)(r:Ret)(h:Aj (rrnStep n q) (E2 n q) r):CT Try.prog 56 ([]) ([Ad n,.int .i64 q]) r.1 r.2:=
 CT.mach (fn:=Try.f56) (c:=zB Try.f56) (S:=rrnSt n q) (hd:=rrnHd) Try.func56 (by kernel_rfl) (nL rfl)
  (fun s o ho=>match s,ho with
   | x,_=>x.elim)
  (fun o ho=>rrnEn_ok n q o ho) h
def clkSt(l:List Int):Empty->St
 | x=>x.elim
def clkHd:Empty->Nat
 | x=>x.elim
def Kb(l:List Int):Option (Empty⊕Ret):=
 gu (List.map iV l=[]->False) <|
 gu (∀(e:AV),e∈List.map iV l->e.cells.length=1) <|
 gu (0+(List.map iV l).length<=9223372036854775807) <|
 gu ((0+(List.map iV l).length) * 8<=140737488355328) <|
 some (.inr ([some (bK ([]++List.map iV l) 1)],AV.sl 0 0 (0+(List.map iV l).length)))
def clkStep(l:List Int):Empty->Option (Empty⊕Ret)
 | x=>x.elim
theorem clkEn_ok(l:List Int)(o:Empty⊕Ret)(h:Kb l=some o):Arr Try.prog Try.f70 0 (clkSt l) clkHd (zB Try.f70) [] {n:=Try.f70.ntmps,fr:=An 0 ([lI l]),hp:=([])} o:=
 Scr.ok h mix (
 .rn 0 [] [] [] [] s2 <|
 .gu fun a0=>
 .rn 0 [] [] [] [] (al (u2 (al (ak a0)))) <|
 .gu fun a1=>
 .gu fun a2=>
 .gu fun a3=>
 .rt [] [] [] [] [1] [] (aj (ak (al (ak (u2 (aj (k2 (aj (show nat_lit 0=nat_lit 0 from rfl) (aj a1 (aj a2 a3)))) s2))))) t3)) (by kernel_rfl)
theorem clk_ct(l:List Int)(r:Ret)(h:Aj (clkStep l) (Kb l) r):CT Try.prog 70 ([]) ([lI l]) r.1 r.2:=
 CT.mach (fn:=Try.f70) (c:=zB Try.f70) (S:=clkSt l) (hd:=clkHd) Try.func70 (by kernel_rfl) (nL rfl)
  (fun s o ho=>match s,ho with
   | x,_=>x.elim)
  (fun o ho=>clkEn_ok l o ho) h
structure DeD where
 x:FrD
 l:List FrD
 o:Bool
def deA(y:DeD):AV:=.tup [frA y.x,.lst (y.l.map frA),.bool y.o]
def Ag(l:List FrD)(q:Int):DeD:=bif BN l q then ⟨l.getD q.toNat fr0,l.take q.toNat++l.drop (q.toNat+1),true⟩ else ⟨fr0,[],false⟩
structure LoD where
 l:List FrD
 o:Bool
def loA(y:LoD):AV:=.tup [.lst (y.l.map frA),.bool y.o]
def Bk(l:List FrD)(q:Int):LoD:=⟨(Ag l q).l,(Ag l q).o⟩
def A9(l:List FrD)(q:Int):LoD:=bif BN l q then ⟨AE l (l.getD q.toNat fr0),true⟩ else ⟨[],false⟩
theorem Em{l:List FrD}{q:Int}:BN l q=true↔(l.length:Int)<=6/\0<=q/\q<(l.length:Int):=by
 unfold BN;simp
theorem MN{L:List AV}{q:Int}(h0:0<=q)(h1:q<(L.length:Int))(h2:(L.length:Int)<=6):
  List.take (L.length-(i64.wrap (q+1)).toNat) (List.drop (i64.wrap (q+1)).toNat L)=L.drop (q.toNat+1):=by
 rw[Dj (by omega) (by omega),show(q+1).toNat=q.toNat+1 by omega]
 exact List.take_of_length_le (by rw[List.length_drop];exact Rm _)
theorem KL{l:List FrD}{L:List AV}(h:∀e∈L,e∈l.map frA):∀e∈L,e.cells.length=5:=fun e he=>Ey l e (h e he)
theorem K0(l:List FrD)(q:Int):CT Try.prog 94 [] [.lst (l.map frA),.int .i64 q] [] (deA (Ag l q)):=by
 unfold Ag
 cases hh:BN l q with
 | false=>exact(Mq l q ([],_) (.val (show GJ l q=_ by unfold GJ;rw[hh];rfl))).to rfl rfl
 | true=>
  obtain⟨h2,h0,h1⟩:=Em.1 hh
  have e0:List.take (q.toNat-Int.toNat 0) (List.drop (Int.toNat 0) (List.map frA l))=List.take q.toNat (List.map frA l):=rfl
  have e1:=MN (L:=List.map frA l) h0 (by rw[Re];exact h1) (by rw[Re];exact h2)
  have hw:i64.wrap (q+1)=q+1:=Dj (by omega) (by omega)
  refine Mq l q ([],_) (.val ?_)
  unfold GJ
  rw[hh,e0,e1,hw,Bn,Ao (by rfl),Ac h0,Bi (Cs fr0 (show q.toNat<l.length by omega)),Ac (Ey l),Ac (by omega),Ac (KL fun e he=>List.mem_of_mem_take he),
   Ac (by rw[RB,Re];omega),Ac (by rw[RB,Re];omega),Ac (by omega),Ac (by omega),Ac (KL fun e he=>List.mem_of_mem_drop he),
   Ac (by rw[RB,List.length_drop,Re];omega),Ac (by rw[RB,List.length_drop,Re];omega),
   <-List.map_take,<-List.map_drop,<-Ro]
  rfl
theorem rdo_c(l:List FrD)(q:Int):CT Try.prog 98 [] [.lst (l.map frA),.int .i64 q] [] (loA (A9 l q)):=by
 unfold A9
 cases hh:BN l q with
 | false=>exact(Nz l q ([],_) (.val (show G9 l q=_ by unfold G9;rw[hh];rfl))).to rfl rfl
 | true=>
  obtain⟨h2,h0,h1⟩:=Em.1 hh
  refine Nz l q ([],_) (.val ?_)
  unfold G9
  rw[hh,Ao (by rfl),Ac h0,Bi (Cs fr0 (show q.toNat<l.length by omega))];rfl
def RaS(x:RaD):Prop:=x.dn.length<=1000000/\x.up.length<=1000000/\x.of.length<=1000000/\x.en.length<=1000000
theorem rcl_c(x:RaD)(h:RaS x):CT Try.prog 52 [] [raA x] [] (raA x):=by
 obtain⟨h1,h2,h3,h4⟩:=h
 refine rcl_ct x ([],_) (.val ?_)
 unfold Kp
 rw[Ac h1,Ac h2,Ac h3,Ac h4];rfl
def Ax(l m:List FrD):List FrD:=m.foldl AE l
theorem E5(l m:List FrD)(hm:m.length<=1000000):CT Try.prog 95 [] [.lst (l.map frA),.lst (m.map frA)] [] (.lst ((Ax l m).map frA)):=by
 refine ral_ct l m ([],_) ?_
 unfold KS
 refine GG (fun i=>D7.l0 (Ax l (m.take i)) (i:Int)) m.length (fun i hi h=>?_) ?_
 .refine .to (show Gy l m _ i=_ from ?_) h
  unfold Gy
  rw[FM fr0 hi,zW i (by omega),List.take_add_one,Cs fr0 hi,Option.toList_some]
  unfold Ax
  rw[List.foldl_append];rfl
 .refine .to (show Gy l m _ m.length=_ from ?_) (.ret _)
  unfold Gy
  rw[Gi,List.take_length]
def plcI(n:Aa)(q:Int):Int:=if ckE n q=0 then plI n q else 0
def plcJ(n:Aa)(q:Int):Int:=if ckE n q=0 then plJ n q else 0
theorem cpl_c(n:Aa)(q:Int)(hrw:Rows n.nx):CT Try.prog 50 [] [Ad n,.int .i64 q] [] (.tup [.int .i64 (plcI n q),.int .i64 (plcJ n q),.int .i64 (ckE n q)]):=by
 refine cpl_ct n q ([],_) (.val ?_)
 unfold Lv plcI plcJ
 rw[Ac hrw]
 by_cases h:ckE n q=0
 .obtain⟨hv,h0,h1⟩:=HI h
  have:=hv.cel
  rw[Ao (by rw[h];rfl),Ac hv,Ac (by omega),if_pos h,if_pos h,h]
 .rw[Au (RZ.2 h),if_neg h,if_neg h]
def ra0:RaD:=⟨se0,⟨0,0,false,0,0⟩,⟨0,0,false,false⟩,[],[],[],[]⟩
def raN(q:Int):RaD:=⟨se0,ag0,⟨q,-1,false,false⟩,[],[],[],[]⟩
structure NwD where
 x:RaD
 e:Int
def nwA(y:NwD):AV:=.tup [raA y.x,.int .i64 y.e]
def EC(n:Aa)(q:Int):NwD:=if ckE n q=0 then ⟨raN q,0⟩ else ⟨ra0,ckE n q⟩
theorem Kg{φ:Phi}{A:Nat->Prop}{w:World}{v:Value}{x y:AV}(h:VR φ A w (.tup [x,y]) v):VR φ A w (.tup [wkr x,y]) v:=by
 obtain⟨vs,rfl,hl,hh⟩:=h.tup_inv
 refine .tup _ vs (by simpa using hl) fun i c u hc hu=>?_
 match i,hc with
 | 0,hc=>cases hc;exact Oo (hh 0 x u rfl hu)
 | 1,hc=>cases hc;exact hh 1 _ u rfl hu
theorem rrn_c(n:Aa)(q:Int)(hrw:Rows n.nx):CT Try.prog 56 [] [Ad n,.int .i64 q] [] (nwA (EC n q)):=by
 have key:∀x y z,E2 n q=some (.inr ([],.tup [x,y]))->.tup [wkr x,y]=nwA z->CT Try.prog 56 [] [Ad n,.int .i64 q] [] (nwA z):=by
  intro x y z h e
  rw[<-e]
  exact(rrn_ct n q ([],_) (.val h)).less fun φ A w v hv=>Kg hv
 unfold EC
 by_cases hv:Aq n
 .by_cases h0:q<0
  .have e:ckE n q=19:=by unfold ckE;rw[if_pos (C2.2 hv),if_pos (.inl h0)]
   rw[e,if_neg (by decide)]
   exact key _ _ _ (by unfold E2;rw[Ac hrw,C2.2 hv,Ao (by rfl),Au (AN h0)]) rfl
  .by_cases h1:(Az n:Int)<=q
   .have e:ckE n q=19:=by unfold ckE;rw[if_pos (C2.2 hv),if_pos (.inr h1)]
    rw[e,if_neg (by decide)]
    exact key _ _ _ (by unfold E2;rw[Ac hrw,C2.2 hv,Ao (by rfl),Ao (AF h0),Ac hv,Au (AN h1)]) rfl
   .have e:ckE n q=0:=Jl hv (by omega) (by omega)
    rw[if_pos e]
    exact key _ _ _ (by unfold E2;rw[Ac hrw,C2.2 hv,Ao (by rfl),Ao (AF h0),Ac hv,Ao (AF h1)]) rfl
 .have e:ckE n q=20:=by unfold ckE;rw[B8 hv,if_neg (by simp)]
  rw[e,if_neg (by decide)]
  exact key _ _ _ (by unfold E2;rw[Ac hrw,B8 hv,Au (by rfl)]) rfl
theorem Jm(l:List Int)(hl:l.length<=1000000):CT Try.prog 70 [] [lI l] [some (iB l)] (.sl 0 0 l.length):=by
 by_cases h:l=[]
 .subst h;exact M4
 refine clk_ct l ([_],_) (.val ?_)
 unfold Kb
 rw[Ac (fun e=>h (List.map_eq_nil_iff.1 e)),Ac (fun e he=>by obtain⟨x,_,rfl⟩:=RF.1 he;rfl),Ac (by rw[Re];omega),Ac (by rw[Re];omega),List.nil_append,Rq,Re];rfl
def rnwSt(n:Aa)(q:Int):Empty->St
 | x=>x.elim
def rnwHd:Empty->Nat
 | x=>x.elim
def GQ(n:Aa)(q:Int):Option (Empty⊕Ret):=
 gu (Rows n.nx) <|
 br (ckE n q != 0)
 (some (.inr ([],AV.tup [AV.agg [uV 0,bV false,iV 0,iV 0,uV 0,iV 0,bV false,iV 0,iV 0,iV 0,iV 0,bV false,bV false,AV.nils,AV.nils,AV.nils,AV.nils],iV (ckE n q)])))
 (some (.inr ([],AV.tup [AV.agg [uV 0,bV false,iV 0,iV 0,uV ag0.l,iV ag0.t,bV false,iV ag0.r,iV ag0.c,iV q,iV (-1),bV false,bV false,AV.nils,AV.nils,AV.nils,AV.nils],iV 0])))
def rnwStep(n:Aa)(q:Int):Empty->Option (Empty⊕Ret)
 | x=>x.elim
theorem rnwEn_ok(n:Aa)(q:Int)(o:Empty⊕Ret)(h:GQ n q=some o):Arr Try.prog Try.f30 0 (rnwSt n q) rnwHd (zB Try.f30) [] {n:=Try.f30.ntmps,fr:=An 0 ([Ad n,.int .i64 q]),hp:=([])} o:=
 Scr.ok h mix (
 .rn 0 [] [] [] [] (al (u2 t3)) <|
 .gu fun a0=>
 have c0:=cpl_c n q a0;
 .rn 1 [] [] [(12,hK c0 [] [])] [] (aj (u2 (u2 (aj (k2 (aj t9 (ak (al (c0))))) (u2 (u2 (u2 (u2 (u2 (u2 s2))))))))) (al (u2 s2))) <|
 .br (fun a1=>
 .rt [35] [] [] [] [] [] (aj (aj a1 (al (ak (u2 (aj (k2 n11) s2))))) (al (aj (ak (k3 (k5 t9))) t2))))
 (fun a1=>
 have c1:=agn_c;
 .rt [34] [] [(20,hK c1 [] [])] [] [] [] (aj (aj a1 (al (aj (al (c1)) (u2 (u2 (aj t3 (aj (k2 n11) t2))))))) (al (aj (ak (k3 (k5 t9))) t2))))) (by kernel_rfl)
theorem rnw_ct(n:Aa)(q:Int)(r:Ret)(h:Aj (rnwStep n q) (GQ n q) r):CT Try.prog 30 ([]) ([Ad n,.int .i64 q]) r.1 r.2:=
 CT.mach (fn:=Try.f30) (c:=zB Try.f30) (S:=rnwSt n q) (hd:=rnwHd) Try.func30 (by kernel_rfl) (nL rfl)
  (fun s o ho=>match s,ho with
   | x,_=>x.elim)
  (fun o ho=>rnwEn_ok n q o ho) h
def rloSt(l:List FrD)(q:Int):Empty->St
 | x=>x.elim
def rloHd:Empty->Nat
 | x=>x.elim
def rloEn(l:List FrD)(q:Int):Option (Empty⊕Ret):=
 some (.inr ([],AV.tup [AV.lst (List.map frA (Ag l q).l),bV (Ag l q).o]))
def rloStep(l:List FrD)(q:Int):Empty->Option (Empty⊕Ret)
 | x=>x.elim
theorem rloEn_ok(l:List FrD)(q:Int)(o:Empty⊕Ret)(h:rloEn l q=some o):Arr Try.prog Try.f97 0 (rloSt l q) rloHd (zB Try.f97) [] {n:=Try.f97.ntmps,fr:=An 0 ([.lst (l.map frA),.int .i64 q]),hp:=([])} o:=
 Scr.ok h mix (
 have c0:=K0 l (q);
 .rt [] [] [(12,hK c0 [] [])] [] [] [] (aj (aj t3 (aj (u2 (u2 (aj (ak (k3 (al (c0)))) (u2 (u2 (u2 (u2 (ak (aj (k2 n11) (u2 s2)))))))))) (al (u2 (u2 (u2 s2)))))) (al t3))) (by kernel_rfl)
theorem rlo_ct(l:List FrD)(q:Int)(r:Ret)(h:Aj (rloStep l q) (rloEn l q) r):CT Try.prog 97 ([]) ([.lst (l.map frA),.int .i64 q]) r.1 r.2:=
 CT.mach (fn:=Try.f97) (c:=zB Try.f97) (S:=rloSt l q) (hd:=rloHd) Try.func97 (by kernel_rfl) (nL rfl)
  (fun s o ho=>match s,ho with
   | x,_=>x.elim)
  (fun o ho=>rloEn_ok l q o ho) h
def kclSt(x:RaD):Empty->St
 | x=>x.elim
def kclHd:Empty->Nat
 | x=>x.elim
def JV(x:RaD):Option (Empty⊕Ret):=
 gu (x.dn.length<=1000000) <|
 gu (x.up.length<=1000000) <|
 gu (x.of.length<=1000000) <|
 gu (x.en.length<=1000000) <|
 some (.inr ([some (bK (List.map iV x.of) 1),some (bK (List.map iV x.en) 1)],rV x.s x.a x.b [AV.lst (List.map frA x.dn),AV.lst (List.map frA x.up),AV.sl 0 0 x.of.length,AV.sl 1 0 x.en.length]))
def kclStep(x:RaD):Empty->Option (Empty⊕Ret)
 | x=>x.elim
theorem kclEn_ok(x:RaD)(o:Empty⊕Ret)(h:JV x=some o):Arr Try.prog Try.f52 0 (kclSt x) kclHd (zB Try.f52) [] {n:=Try.f52.ntmps,fr:=An 0 ([raA x]),hp:=([])} o:=
 Scr.ok h mix (
 .rn 0 [] [] [] [] (al (u2 t2)) <|
 .gu fun a0=>
 .gu fun a1=>
 .gu fun a2=>
 .gu fun a3=>
 have c0:=Jr (x.dn) a0;
 have c1:=Jr (x.up) a1;
 have c2:=Jm (x.of) a2;
 have c3:=Jm (x.en) a3;
 .rt [] [] [(5,hK c0 [] []),(8,hK c1 [] []),(11,hK c2 [] []),(14,hK c3 [] [])] [] [2,3] [] (aj (aj (u2 (u2 (aj (k2 (al (c0))) (u2 (u2 (aj (k2 (al (c1))) (u2 (u2 (aj (k2 (al (c2))) (u2 (u2 (aj (k2 (al (c3))) (u2 (aj t3 (u2 (aj t3 (u2 (aj t3 (u2 (al t3)))))))))))))))))))) (al (u2 (al (k2 n11))))) (aj (ak (k3 (k5 t9))) t3))) (by kernel_rfl)
theorem kcl_ct(x:RaD)(r:Ret)(h:Aj (kclStep x) (JV x) r):CT Try.prog 52 ([]) ([raA x]) r.1 r.2:=
 CT.mach (fn:=Try.f52) (c:=zB Try.f52) (S:=kclSt x) (hd:=kclHd) Try.func52 (by kernel_rfl) (nL rfl)
  (fun s o ho=>match s,ho with
   | x,_=>x.elim)
  (fun o ho=>kclEn_ok x o ho) h
theorem rnw_c(n:Aa)(q:Int)(hrw:Rows n.nx):CT Try.prog 30 [] [Ad n,.int .i64 q] [] (nwA (EC n q)):=by
 have key:∀x y z,GQ n q=some (.inr ([],.tup [x,y]))->.tup [wkr x,y]=nwA z->CT Try.prog 30 [] [Ad n,.int .i64 q] [] (nwA z):=by
  intro x y z h e
  rw[<-e]
  exact(rnw_ct n q ([],_) (.val h)).less fun φ A w v hv=>Kg hv
 unfold EC
 by_cases e:ckE n q=0
 .rw[if_pos e]
  exact key _ _ _ (by unfold GQ;rw[Ac hrw,Ao (by rw[e];rfl)]) rfl
 .rw[if_neg e]
  exact key _ _ _ (by unfold GQ;rw[Ac hrw,Au (RZ.2 e)]) rfl
theorem rlo_c(l:List FrD)(q:Int):CT Try.prog 97 [] [.lst (l.map frA),.int .i64 q] [] (loA (Bk l q)):=rlo_ct l q ([],_) (.ret _)
theorem kcl_c(z:SeD)(g:AgD)(d:BdD)(dn up:List FrD)(of en:List Int)(h:RaS ⟨z,g,d,dn,up,of,en⟩):CT Try.prog 52 [] [raA ⟨z,g,d,dn,up,of,en⟩] [some (iB of),some (iB en)] (raL z g d dn up (.sl 0 0 of.length) (.sl 1 0 en.length)):=by
 obtain⟨h1,h2,h3,h4⟩:=h
 refine kcl_ct _ ([_,_],_) (.val ?_)
 unfold JV
 rw[Ac h1,Ac h2,Ac h3,Ac h4];rfl
theorem rcl_e(z:SeD)(g:AgD)(d:BdD)(dn up:List FrD)(of en:List Int)(h:RaS ⟨z,g,d,dn,up,of,en⟩):CT Try.prog 52 [] [raA ⟨z,g,d,dn,up,of,en⟩] [] (raA ⟨z,g,d,dn,up,of,en⟩):=rcl_c _ h
structure CnD where
 s:SeD
 dn:List FrD
def Bg(z:SeD)(dn:List FrD)(y:FrD):CnD:=bif y.k==2 then ⟨bif z.f==0||y.f==2 then (Cy z y.q).s else z,AE dn ⟨3,0,y.q,0,y.f⟩⟩ else ⟨z,dn⟩
def ksnSt(l:List FrD)(x:FrD):Empty->St
 | x=>x.elim
def ksnHd:Empty->Nat
 | x=>x.elim
def Hg(l:List FrD)(x:FrD):Option (Empty⊕Ret):=
 br (decide (6<iN (List.map frA l).length))
 (some (.inr ([],AV.nils)))
 (gu (iN (List.map frA l).length<=7) <|
  gu (∀(e:AV),e∈List.map frA l->e.cells.length=5) <|
  br (decide (iN (List.map frA l).length<6))
  (gu (([]++List.take (min (List.map frA l).length (List.map frA l).length) (List.map frA l)++List.drop (0+min (List.map frA l).length (List.map frA l).length) (List.replicate (List.map frA l).length (AV.agg [iV 0,iV 0,uV 0,iV 0,iV 0]))).length+[AV.agg [iV x.k,iV x.r,uV x.q,iV x.c,iV x.f]].length<=9223372036854775807) <|
   gu ((([]++List.take (min (List.map frA l).length (List.map frA l).length) (List.map frA l)++List.drop (0+min (List.map frA l).length (List.map frA l).length) (List.replicate (List.map frA l).length (AV.agg [iV 0,iV 0,uV 0,iV 0,iV 0]))).length+[AV.agg [iV x.k,iV x.r,uV x.q,iV x.c,iV x.f]].length) * 40<=140737488355328) <|
   some (.inr ([some (bK ([]++List.take (min (List.map frA l).length (List.map frA l).length) (List.map frA l)++List.drop (0+min (List.map frA l).length (List.map frA l).length) (List.replicate (List.map frA l).length (AV.agg [iV 0,iV 0,uV 0,iV 0,iV 0]))++[AV.agg [iV x.k,iV x.r,uV x.q,iV x.c,iV x.f]]) 5)],AV.sl 0 0 (([]++List.take (min (List.map frA l).length (List.map frA l).length) (List.map frA l)++List.drop (0+min (List.map frA l).length (List.map frA l).length) (List.replicate (List.map frA l).length (AV.agg [iV 0,iV 0,uV 0,iV 0,iV 0]))).length+[AV.agg [iV x.k,iV x.r,uV x.q,iV x.c,iV x.f]].length))))
  (some (.inr ([some (bK ([]++List.take (min (List.map frA l).length (List.map frA l).length) (List.map frA l)++List.drop (0+min (List.map frA l).length (List.map frA l).length) (List.replicate (List.map frA l).length (AV.agg [iV 0,iV 0,uV 0,iV 0,iV 0]))) 5)],AV.sl 0 0 (List.map frA l).length))))
def ksnStep(l:List FrD)(x:FrD):Empty->Option (Empty⊕Ret)
 | x=>x.elim
theorem ksnEn_ok(l:List FrD)(x:FrD)(o:Empty⊕Ret)(h:Hg l x=some o):Arr Try.prog Try.f54 0 (ksnSt l x) ksnHd (zB Try.f54) [] {n:=Try.f54.ntmps,fr:=An 0 ([.lst (l.map frA),frA x]),hp:=([])} o:=
 Scr.ok h mix (
 .rn 1 [] [] [] [] (ag t2 (al (u2 (u2 s2)))) <|
 .br (fun a0=>
 .rt [17] [] [] [] [] [] (aj (aj a0 s2) t2))
 (fun a0=>
 .gu fun a1=>
 .rn 0 [16] [] [] [] (aj a0 (al (u2 (u2 (aj (ak (aj (show 0<=iN (List.map frA l).length from(Int.natCast_nonneg _)) (aj a1 (aj (show(280:Int)<=(281474976710656:Int) from(by first | exact nL rfl | decide)) (show(7:Int)<=(9223372036854775807:Int) from(by first | exact nL rfl | decide)))))) s2))))) <|
 .gu fun a2=>
 .rn 1 [] [] [] [] (aj (u2 (u2 (al (k2 (aj (show 0+(List.map frA l).length<=(List.replicate (List.map frA l).length (AV.agg [iv 0,iv 0,uV 0,iv 0,iv 0])).length by simp) a2))))) (al (u2 (u2 s2)))) <|
 .br (fun a3=>
  .gu fun a4=>
  .gu fun a5=>
  .rt [35] [] [] [] [3] [] (aj (aj a3 (aj (u2 (u2 (u2 (aj (k2 (aj (show([]++List.take (min (List.map frA l).length (List.map frA l).length) (List.map frA l)++List.drop (0+min (List.map frA l).length (List.map frA l).length) (List.replicate (List.map frA l).length (AV.agg [iv 0,iv 0,uV 0,iv 0,iv 0]))).length=(List.map frA l).length by simp) (aj (aj (show nat_lit 5=nat_lit 5 from rfl) (show 1<=[AV.agg [iv x.k,iv x.r,uV x.q,iv x.c,iv x.f]].length by simp)) (aj a4 a5)))) s2)))) (al (u2 s2)))) t3))
 (fun a3=>
  .rt [34] [] [] [] [1] [] (aj (aj a3 (al (u2 s2))) t3)))) (by kernel_rfl)
theorem NT(l:List FrD)(x:FrD)(r:Ret)(h:Aj (ksnStep l x) (Hg l x) r):CT Try.prog 54 ([]) ([.lst (l.map frA),frA x]) r.1 r.2:=
 CT.mach (fn:=Try.f54) (c:=zB Try.f54) (S:=ksnSt l x) (hd:=ksnHd) Try.func54 (by kernel_rfl) (nL rfl)
  (fun s o ho=>match s,ho with
   | x,_=>x.elim)
  (fun o ho=>ksnEn_ok l x o ho) h
def kdeSt(l:List FrD)(q:Int):Empty->St
 | x=>x.elim
def kdeHd:Empty->Nat
 | x=>x.elim
def Il(l:List FrD)(q:Int):Option (Empty⊕Ret):=
 br (!BN l q)
 (some (.inr ([],AV.tup [AV.agg [iV 0,iV 0,uV 0,iV 0,iV 0],AV.nils,bV false])))
 (gu (0<=q) <|
  gu (q<=iN (List.map frA l).length) <|
  gu (40 * iN (List.map frA l).length<=281474976710656) <|
  gu (iN (List.map frA l).length<=9223372036854775807) <|
  gu (∀(e:AV),e∈List.map frA l->e.cells.length=5) <|
  el l (q.toNat) fun(x22:FrD)=>
  gu (0<=i64.wrap (q+1)) <|
  gu (i64.wrap (q+1)<=iN (List.map frA l).length) <|
  gu (([]++List.take (min (List.map frA l).length q.toNat) (List.map frA l)++List.drop (0+min (List.map frA l).length q.toNat) (List.replicate q.toNat (AV.agg [iV 0,iV 0,uV 0,iV 0,iV 0]))).length=q.toNat) <|
  gu (∀(e:AV),e∈List.take ((List.map frA l).length-(i64.wrap (q+1)).toNat) (List.drop (i64.wrap (q+1)).toNat (List.map frA l))->e.cells.length=5) <|
  gu (([]++List.take (min (List.map frA l).length q.toNat) (List.map frA l)++List.drop (0+min (List.map frA l).length q.toNat) (List.replicate q.toNat (AV.agg [iV 0,iV 0,uV 0,iV 0,iV 0]))).length+(List.take ((List.map frA l).length-(i64.wrap (q+1)).toNat) (List.drop (i64.wrap (q+1)).toNat (List.map frA l))).length<=9223372036854775807) <|
  gu ((([]++List.take (min (List.map frA l).length q.toNat) (List.map frA l)++List.drop (0+min (List.map frA l).length q.toNat) (List.replicate q.toNat (AV.agg [iV 0,iV 0,uV 0,iV 0,iV 0]))).length+(List.take ((List.map frA l).length-(i64.wrap (q+1)).toNat) (List.drop (i64.wrap (q+1)).toNat (List.map frA l))).length) * 40<=140737488355328) <|
  some (.inr ([some (bK ([]++List.take (min (List.map frA l).length q.toNat) (List.map frA l)++List.drop (0+min (List.map frA l).length q.toNat) (List.replicate q.toNat (AV.agg [iV 0,iV 0,uV 0,iV 0,iV 0]))++List.take ((List.map frA l).length-(i64.wrap (q+1)).toNat) (List.drop (i64.wrap (q+1)).toNat (List.map frA l))) 5)],AV.tup [AV.agg [iV x22.k,iV x22.r,uV x22.q,iV x22.c,iV x22.f],AV.sl 0 0 (([]++List.take (min (List.map frA l).length q.toNat) (List.map frA l)++List.drop (0+min (List.map frA l).length q.toNat) (List.replicate q.toNat (AV.agg [iV 0,iV 0,uV 0,iV 0,iV 0]))).length+(List.take ((List.map frA l).length-(i64.wrap (q+1)).toNat) (List.drop (i64.wrap (q+1)).toNat (List.map frA l))).length),bV true])))
def kdeStep(l:List FrD)(q:Int):Empty->Option (Empty⊕Ret)
 | x=>x.elim
theorem kdeEn_ok(l:List FrD)(q:Int)(o:Empty⊕Ret)(h:Il l q=some o):Arr Try.prog Try.f89 0 (kdeSt l q) kdeHd (zB Try.f89) [] {n:=Try.f89.ntmps,fr:=An 0 ([.lst (l.map frA),.int .i64 q]),hp:=([])} o:=
 Scr.ok h mix (
 have c0:=chs_c l (q);
 .rn 1 [] [] [(10,hK c0 [] [])] [] (aj t4 (al (u2 (u2 (aj (ak (k3 (al (c0)))) s2))))) <|
 .br (fun a0=>
 .rt [23] [] [] [] [] [] (aj (aj a0 (al (ak (aj (k2 n11) t3)))) (al (aj t6 t3))))
 (fun a0=>
 .gu fun a1=>
 .gu fun a2=>
 .gu fun a3=>
 .gu fun a4=>
 .rn 0 [22] [] [] [] (aj a0 (al (u2 (u2 (u2 (aj (k2 (aj a1 (aj a2 (aj a3 a4)))) s2)))))) <|
 .gu fun a5=>
 .rn 0 [] [] [] [] (al (u2 (u2 (al (k2 (aj (show 0+q.toNat<=(List.replicate q.toNat (AV.agg [iv 0,iv 0,uV 0,iv 0,iv 0])).length by simp) a5)))))) <|
 .el fun x22 a6=>
 .gu fun a7=>
 .gu fun a8=>
 .gu fun a9=>
 .gu fun a10=>
 .gu fun a11=>
 .gu fun a12=>
 .rt [] [(22,frA x22)] [] [] [2] [] (aj (al (u2 (u2 (aj (k2 (aj a1 (A2 (f:=frA) a6))) (u2 (u2 (u2 (u2 (u2 (aj (k2 (aj a5 (aj a7 (aj a8 (aj (show iN (List.map frA l).length<=iN (List.map frA l).length by omega) (show iN (List.map frA l).length<=iN (List.map frA l).length by omega)))))) (aj (k2 (aj a9 (aj a10 (aj a11 a12)))) (aj (k2 n11) (u2 t2))))))))))))) (aj (aj t6 t3) t2)))) (by kernel_rfl)
theorem ND(l:List FrD)(q:Int)(r:Ret)(h:Aj (kdeStep l q) (Il l q) r):CT Try.prog 89 ([]) ([.lst (l.map frA),.int .i64 q]) r.1 r.2:=
 CT.mach (fn:=Try.f89) (c:=zB Try.f89) (S:=kdeSt l q) (hd:=kdeHd) Try.func89 (by kernel_rfl) (nL rfl)
  (fun s o ho=>match s,ho with
   | x,_=>x.elim)
  (fun o ho=>kdeEn_ok l q o ho) h
def kcfSt(l:List FrD):Empty->St
 | x=>x.elim
def kcfHd:Empty->Nat
 | x=>x.elim
def KV(l:List FrD):Option (Empty⊕Ret):=
 gu (List.map frA l=[]->False) <|
 gu (∀(e:AV),e∈List.map frA l->e.cells.length=5) <|
 gu (0+(List.map frA l).length<=9223372036854775807) <|
 gu ((0+(List.map frA l).length) * 40<=140737488355328) <|
 some (.inr ([some (bK ([]++List.map frA l) 5)],AV.sl 0 0 (0+(List.map frA l).length)))
def kcfStep(l:List FrD):Empty->Option (Empty⊕Ret)
 | x=>x.elim
theorem kcfEn_ok(l:List FrD)(o:Empty⊕Ret)(h:KV l=some o):Arr Try.prog Try.f69 0 (kcfSt l) kcfHd (zB Try.f69) [] {n:=Try.f69.ntmps,fr:=An 0 ([.lst (l.map frA)]),hp:=([])} o:=
 Scr.ok h mix (
 .rn 0 [] [] [] [] s2 <|
 .gu fun a0=>
 .rn 0 [] [] [] [] (al (u2 (al (ak a0)))) <|
 .gu fun a1=>
 .gu fun a2=>
 .gu fun a3=>
 .rt [] [] [] [] [1] [] (aj (ak (al (ak (u2 (aj (k2 (aj (show nat_lit 0=nat_lit 0 from rfl) (aj a1 (aj a2 a3)))) s2))))) t3)) (by kernel_rfl)
theorem kcf_ct(l:List FrD)(r:Ret)(h:Aj (kcfStep l) (KV l) r):CT Try.prog 69 ([]) ([.lst (l.map frA)]) r.1 r.2:=
 CT.mach (fn:=Try.f69) (c:=zB Try.f69) (S:=kcfSt l) (hd:=kcfHd) Try.func69 (by kernel_rfl) (nL rfl)
  (fun s o ho=>match s,ho with
   | x,_=>x.elim)
  (fun o ho=>kcfEn_ok l o ho) h
theorem CT.virt{P:Program}{f:FuncId}{args:List AV}{res res':AV}{z:Nat}{fl:Bool}(h:CT P f [] args [] res)(hv:∀φ A w v,VR φ A w res v->VR φ A w res' v):
  CT P f [] args [some {es:=[],z:=z,flat:=fl}] res':=by
 intro φ A w vs h1 h2 h3 h4 h5
 refine(h φ A w vs h1 h2 h3 h4 h5).mono fun e w' ⟨v,φ',he,C⟩=>⟨v,φ',he,?_⟩
 have hn:∀b,φ' b=none:=fun b=>C.out b (Rn _)
 have hb:∀{b:Nat} {blk:Blk},nth [some ({es:=[],z:=z,flat:=fl}:Blk)] b=some blk->blk={es:=[],z:=z,flat:=fl}:=fun {b blk} hg=>by
  cases b with
  | zero=>exact(RH hg).symm
  | succ b=>cases hg
 have hm:∀r,¬Mut φ' (nth [some ({es:=[],z:=z,flat:=fl}:Blk)]) r:=fun r ⟨b,blk,z',_,_,g⟩=>by rw[hn b] at g;cases g
 refine⟨fun b hb=>(by cases hb),C.keep,fun r hr=>absurd hr (hm r),⟨fun b blk hg=>?_,fun b blk hg _=>?_,fun b b' r z z' _ _ hg=>?_⟩,hv _ _ _ _ (C.val.mono (fun _ _ h=>h) (fun r hr=>⟨hr.1,hr.2.1,hm r⟩) (fun _ _=>rfl) (fun _=>Rm _)),fun b _=>hn b,Rn _,fun b r z _ hg=>?_⟩
 .rw[hb hg];exact .inl ⟨rfl,hn b,rfl,rfl⟩
 .rw[hb hg];exact fun e he=>nomatch he
 .rw[hn b] at hg;cases hg
 .rw[hn b] at hg;cases hg
theorem Li{φ:Phi}{A:Nat->Prop}{w:World}{v:Value}(h:VR φ A w .nils v):VR φ A w (.sl 0 0 0) v:=by rw[h.nils_inv];exact .slnil 0 0 none
theorem tup3_nil{φ:Phi}{A:Nat->Prop}{w:World}{v:Value}{x y:AV}(h:VR φ A w (.tup [x,.nils,y]) v):VR φ A w (.tup [x,.sl 0 0 0,y]) v:=by
 obtain⟨vs,rfl,h1,h2⟩:=h.tup_inv
 refine .tup _ vs h1 fun i c u hc hu=>?_
 match i,hc with
 | 0,hc=>exact h2 0 c u hc hu
 | 1,hc=>cases hc;exact Li (h2 1 _ u rfl hu)
 | 2,hc=>exact h2 2 c u hc hu
theorem tup2_nil{φ:Phi}{A:Nat->Prop}{w:World}{v:Value}{y:AV}(h:VR φ A w (.tup [.nils,y]) v):VR φ A w (.tup [.sl 0 0 0,y]) v:=by
 obtain⟨vs,rfl,h1,h2⟩:=h.tup_inv
 refine .tup _ vs h1 fun i c u hc hu=>?_
 match i,hc with
 | 0,hc=>cases hc;exact Li (h2 0 _ u rfl hu)
 | 1,hc=>exact h2 1 c u hc hu
def fB(l:List FrD):Blk:={es:=l.map frA,z:=5}
theorem Gw(l:List FrD)(x:FrD):CT Try.prog 54 [] [.lst (l.map frA),frA x] [some (fB (AE l x))] (.sl 0 0 (AE l x).length):=by
 unfold AE
 by_cases h:6<l.length
 .rw[if_pos h]
  exact CT.virt (NT l x ([],_) (.val (show Hg l x=_ by unfold Hg;rw[Bn,Au (AN (by omega))]))) fun _ _ _ _ h=>Li h
 .rw[if_neg h]
  have e0:∀a:AV,([]++List.take (min (List.map frA l).length (List.map frA l).length) (List.map frA l)++List.drop (0+min (List.map frA l).length (List.map frA l).length) (List.replicate (List.map frA l).length a))=List.map frA l:=by
   intro a;simp;exact List.take_of_length_le (by simp)
  refine NT l x ([_],_) (.val ?_)
  unfold Hg
  rw[Bn,e0,Ao (AF (by omega)),Ac (by omega),Ac (Ey _)]
  by_cases h2:l.length<6
  .rw[Au (AN (by omega)),Ac (by simp only[Re,RP];omega),Ac (by simp only[Re,RP];omega),if_pos h2,fB,Ro,Re,Ru];rfl
  .rw[Ao (AF (by omega)),if_neg h2,Re];rfl
def deK(y:DeD):AV:=.tup [frA y.x,.sl 0 0 y.l.length,.bool y.o]
def loK(y:LoD):AV:=.tup [.sl 0 0 y.l.length,.bool y.o]
theorem LH(l:List FrD)(q:Int):CT Try.prog 89 [] [.lst (l.map frA),.int .i64 q] [some (fB (Ag l q).l)] (deK (Ag l q)):=by
 unfold Ag
 cases hh:BN l q with
 | false=>
  exact CT.virt (res:=.tup [frA fr0,.nils,.bool false]) (ND l q ([],_) (.val (by unfold Il;rw[hh];rfl))) fun _ _ _ _ h=>tup3_nil h
 | true=>
  obtain⟨h2,h0,h1⟩:=Em.1 hh
  have e0:∀a:AV,([]++List.take (min (List.map frA l).length q.toNat) (List.map frA l)++List.drop (0+min (List.map frA l).length q.toNat) (List.replicate q.toNat a))=List.take q.toNat (List.map frA l):=by
   intro a
   rw[Re,Nat.min_eq_right (by omega),Rq,List.drop_of_length_le (by simp)];simp
  have e1:=MN (L:=List.map frA l) h0 (by rw[Re];exact h1) (by rw[Re];exact h2)
  have hw:i64.wrap (q+1)=q+1:=Dj (by omega) (by omega)
  refine ND l q ([_],_) (.val ?_)
  unfold Il
  rw[hh,e0,e1,hw,Bn,Ao (by rfl),Ac h0,Ac (by omega),Ac (by omega),Ac (by omega),Ac (Ey l),Bi (Cs fr0 (show q.toNat<l.length by omega)),Ac (by omega),Ac (by omega),
   Ac (by rw[RB,Re];omega),Ac (KL fun e he=>List.mem_of_mem_drop he),
   Ac (by rw[RB,List.length_drop,Re];omega),Ac (by rw[RB,List.length_drop,Re];omega),
   <-List.map_take,<-List.map_drop,<-Ro,Re,Re,<-Ru]
  rfl
theorem kcf_c(l:List FrD)(hl:l.length<=1000000):CT Try.prog 69 [] [.lst (l.map frA)] [some (fB l)] (.sl 0 0 l.length):=by
 by_cases h:l=[]
 .subst h;exact NX
 refine kcf_ct l ([_],_) (.val ?_)
 unfold KV
 rw[Ac (fun e=>h (List.map_eq_nil_iff.1 e)),Ac (Ey _),Ac (by rw[Re];omega),Ac (by rw[Re];omega),List.nil_append,Rq,Re];rfl
def kdoSt(l:List FrD)(q:Int):Empty->St
 | x=>x.elim
def kdoHd:Empty->Nat
 | x=>x.elim
def IP(l:List FrD)(q:Int):Option (Empty⊕Ret):=
 br (!BN l q)
 (some (.inr ([],AV.tup [AV.nils,bV false])))
 (gu (0<=q) <|
  el l (q.toNat) fun(x13:FrD)=>
  some (.inr ([some (bK (List.map frA (AE l x13)) 5)],AV.tup [AV.sl 0 0 (AE l x13).length,bV true])))
def kdoStep(l:List FrD)(q:Int):Empty->Option (Empty⊕Ret)
 | x=>x.elim
theorem kdoEn_ok(l:List FrD)(q:Int)(o:Empty⊕Ret)(h:IP l q=some o):Arr Try.prog Try.f88 0 (kdoSt l q) kdoHd (zB Try.f88) [] {n:=Try.f88.ntmps,fr:=An 0 ([.lst (l.map frA),.int .i64 q]),hp:=([])} o:=
 Scr.ok h mix (
 have c0:=chs_c l (q);
 .rn 1 [] [] [(8,hK c0 [] [])] [] (aj t3 (al (u2 (u2 (aj (ak (k3 (al (c0)))) s2))))) <|
 .br (fun a0=>
 .rt [19] [] [] [] [] [] (aj (aj a0 (al t3)) (al t3)))
 (fun a0=>
 .gu fun a1=>
 .el fun x13 a2=>
 have c1:=Gw l (x13);
 .rt [18] [(13,frA x13)] [(15,hK c1 [] [])] [] [0] [] (aj (aj a0 (al (u2 (u2 (u2 (aj (k2 (aj a1 (A2 (f:=frA) a2))) (u2 (aj (k3 (aj t6 (al (c1)))) (u2 t2))))))))) (aj t3 t2)))) (by kernel_rfl)
theorem N3(l:List FrD)(q:Int)(r:Ret)(h:Aj (kdoStep l q) (IP l q) r):CT Try.prog 88 ([]) ([.lst (l.map frA),.int .i64 q]) r.1 r.2:=
 CT.mach (fn:=Try.f88) (c:=zB Try.f88) (S:=kdoSt l q) (hd:=kdoHd) Try.func88 (by kernel_rfl) (nL rfl)
  (fun s o ho=>match s,ho with
   | x,_=>x.elim)
  (fun o ho=>kdoEn_ok l q o ho) h
def kloSt(l:List FrD)(q:Int):Empty->St
 | x=>x.elim
def kloHd:Empty->Nat
 | x=>x.elim
def kloEn(l:List FrD)(q:Int):Option (Empty⊕Ret):=
 some (.inr ([some (bK (List.map frA (Ag l q).l) 5)],AV.tup [AV.sl 0 0 (Ag l q).l.length,bV (Ag l q).o]))
def kloStep(l:List FrD)(q:Int):Empty->Option (Empty⊕Ret)
 | x=>x.elim
theorem kloEn_ok(l:List FrD)(q:Int)(o:Empty⊕Ret)(h:kloEn l q=some o):Arr Try.prog Try.f87 0 (kloSt l q) kloHd (zB Try.f87) [] {n:=Try.f87.ntmps,fr:=An 0 ([.lst (l.map frA),.int .i64 q]),hp:=([])} o:=
 Scr.ok h mix (
 have c0:=LH l (q);
 .rt [] [] [(12,hK c0 [] [])] [] [0] [] (aj (aj t3 (aj (u2 (u2 (aj (ak (k3 (al (c0)))) (u2 (u2 (u2 (u2 (ak (aj (k2 n11) (u2 s2)))))))))) (al (u2 (u2 (u2 s2)))))) (aj t3 t2))) (by kernel_rfl)
theorem klo_ct(l:List FrD)(q:Int)(r:Ret)(h:Aj (kloStep l q) (kloEn l q) r):CT Try.prog 87 ([]) ([.lst (l.map frA),.int .i64 q]) r.1 r.2:=
 CT.mach (fn:=Try.f87) (c:=zB Try.f87) (S:=kloSt l q) (hd:=kloHd) Try.func87 (by kernel_rfl) (nL rfl)
  (fun s o ho=>match s,ho with
   | x,_=>x.elim)
  (fun o ho=>kloEn_ok l q o ho) h
def kc5St(x:RaD):Empty->St
 | x=>x.elim
def kc5Hd:Empty->Nat
 | x=>x.elim
def K4(x:RaD):Option (Empty⊕Ret):=
 gu (x.dn.length<=1000000) <|
 gu (x.up.length<=1000000) <|
 gu (x.of.length<=1000000) <|
 gu (x.en.length<=1000000) <|
 some (.inr ([some (bK (List.map frA x.dn) 5),some (bK (List.map frA x.up) 5),some (bK (List.map iV x.of) 1),some (bK (List.map iV x.en) 1)],rV x.s x.a x.b [AV.sl 0 0 x.dn.length,AV.sl 1 0 x.up.length,AV.sl 2 0 x.of.length,AV.sl 3 0 x.en.length]))
def kc5Step(x:RaD):Empty->Option (Empty⊕Ret)
 | x=>x.elim
theorem kc5En_ok(x:RaD)(o:Empty⊕Ret)(h:K4 x=some o):Arr Try.prog Try.f52 0 (kc5St x) kc5Hd (zB Try.f52) [] {n:=Try.f52.ntmps,fr:=An 0 ([raA x]),hp:=([])} o:=
 Scr.ok h mix (
 .rn 0 [] [] [] [] (al (u2 t2)) <|
 .gu fun a0=>
 .gu fun a1=>
 .gu fun a2=>
 .gu fun a3=>
 have c0:=kcf_c (x.dn) a0;
 have c1:=kcf_c (x.up) a1;
 have c2:=Jm (x.of) a2;
 have c3:=Jm (x.en) a3;
 .rt [] [] [(5,hK c0 [] []),(8,hK c1 [] []),(11,hK c2 [] []),(14,hK c3 [] [])] [] [2,3,4,5] [] (aj (aj (u2 (u2 (aj (k2 (al (c0))) (u2 (u2 (aj (k2 (al (c1))) (u2 (u2 (aj (k2 (al (c2))) (u2 (u2 (aj (k2 (al (c3))) (u2 (aj t3 (u2 (aj t3 (u2 (aj t3 (u2 (al t3)))))))))))))))))))) (al (u2 (al (k2 n11))))) (aj (ak (k3 (k5 t9))) t5))) (by kernel_rfl)
theorem kc5_ct(x:RaD)(r:Ret)(h:Aj (kc5Step x) (K4 x) r):CT Try.prog 52 ([]) ([raA x]) r.1 r.2:=
 CT.mach (fn:=Try.f52) (c:=zB Try.f52) (S:=kc5St x) (hd:=kc5Hd) Try.func52 (by kernel_rfl) (nL rfl)
  (fun s o ho=>match s,ho with
   | x,_=>x.elim)
  (fun o ho=>kc5En_ok x o ho) h
theorem HL(l:List FrD)(q:Int):CT Try.prog 88 [] [.lst (l.map frA),.int .i64 q] [some (fB (A9 l q).l)] (loK (A9 l q)):=by
 unfold A9
 cases hh:BN l q with
 | false=>
  exact CT.virt (res:=.tup [.nils,.bool false]) (N3 l q ([],_) (.val (by unfold IP;rw[hh];rfl))) fun _ _ _ _ h=>tup2_nil h
 | true=>
  obtain⟨h2,h0,h1⟩:=Em.1 hh
  refine N3 l q ([_],_) (.val ?_)
  unfold IP
  rw[hh,Ao (by rfl),Ac h0,Bi (Cs fr0 (show q.toNat<l.length by omega))];rfl
theorem Jx(l:List FrD)(q:Int):CT Try.prog 87 [] [.lst (l.map frA),.int .i64 q] [some (fB (Bk l q).l)] (loK (Bk l q)):=klo_ct l q ([_],_) (.val rfl)
def raM(s:SeD)(a:AgD)(b:BdD)(p q i j:AV):AV:=.agg [.int .u64 s.q,.bool s.o,.int .i64 s.c,.int .i64 s.f,.int .u64 a.l,.int .i64 a.t,.bool a.s,.int .i64 a.r,.int .i64 a.c,
 .int .i64 b.c,.int .i64 b.t,.bool b.s,.bool b.f,p,q,i,j]
def rB(s:SeD)(a:AgD)(b:BdD)(dn up:List FrD)(of en:List Int):Blk:={es:=[raM s a b (.sl 1 0 dn.length) (.sl 2 0 up.length) (.sl 3 0 of.length) (.sl 4 0 en.length)],z:=17,flat:=false}
theorem kc5_c(z:SeD)(g:AgD)(d:BdD)(dn up:List FrD)(of en:List Int)(h:RaS ⟨z,g,d,dn,up,of,en⟩):CT Try.prog 52 [] [raA ⟨z,g,d,dn,up,of,en⟩] [some (fB dn),some (fB up),some (iB of),some (iB en)]
  (raM z g d (.sl 0 0 dn.length) (.sl 1 0 up.length) (.sl 2 0 of.length) (.sl 3 0 en.length)):=by
 obtain⟨h1,h2,h3,h4⟩:=h
 refine kc5_ct _ ([_,_,_,_],_) (.val ?_)
 unfold K4
 rw[Ac h1,Ac h2,Ac h3,Ac h4];rfl
def cnfSt(z:SeD)(g:AgD)(d:BdD)(dn up:List FrD)(of en:List Int)(y:FrD):Empty->St
 | x=>x.elim
def cnfHd:Empty->Nat
 | x=>x.elim
def KQ(z:SeD)(g:AgD)(d:BdD)(dn up:List FrD)(of en:List Int)(y:FrD):Option (Empty⊕Ret):=
 br (y.k != 2)
 (some (.inr ([some (Blk.mk [rV z g d [AV.sl 1 0 dn.length,AV.sl 2 0 up.length,AV.sl 3 0 of.length,AV.sl 4 0 en.length]] 17 false true none),some (bK (List.map frA dn) 5),some (bK (List.map frA up) 5),some (bK (List.map iV of) 1),some (bK (List.map iV en) 1)],AV.tup [])))
 (br (z.f==0)
  (gu (∀(blk:Blk),blk∈[fB (AE dn (FrD.mk 3 0 y.q 0 y.f))]->AZ blk) <|
   some (.inr ([some (Blk.mk [rV (Cy z y.q).s g d [AV.sl 1 0 (AE dn (FrD.mk 3 0 y.q 0 y.f)).length,AV.sl 2 0 up.length,AV.sl 3 0 of.length,AV.sl 4 0 en.length]] 17 false true none),some (bK (List.map frA (AE dn (FrD.mk 3 0 y.q 0 y.f))) 5),some (bK (List.map frA up) 5),some (bK (List.map iV of) 1),some (bK (List.map iV en) 1)],AV.tup [])))
  (br (y.f==2)
   (gu (∀(blk:Blk),blk∈[fB (AE dn (FrD.mk 3 0 y.q 0 y.f))]->AZ blk) <|
    some (.inr ([some (Blk.mk [rV (Cy z y.q).s g d [AV.sl 1 0 (AE dn (FrD.mk 3 0 y.q 0 y.f)).length,AV.sl 2 0 up.length,AV.sl 3 0 of.length,AV.sl 4 0 en.length]] 17 false true none),some (bK (List.map frA (AE dn (FrD.mk 3 0 y.q 0 y.f))) 5),some (bK (List.map frA up) 5),some (bK (List.map iV of) 1),some (bK (List.map iV en) 1)],AV.tup [])))
   (gu (∀(blk:Blk),blk∈[fB (AE dn (FrD.mk 3 0 y.q 0 y.f))]->AZ blk) <|
    some (.inr ([some (Blk.mk [rV z g d [AV.sl 1 0 (AE dn (FrD.mk 3 0 y.q 0 y.f)).length,AV.sl 2 0 up.length,AV.sl 3 0 of.length,AV.sl 4 0 en.length]] 17 false true none),some (bK (List.map frA (AE dn (FrD.mk 3 0 y.q 0 y.f))) 5),some (bK (List.map frA up) 5),some (bK (List.map iV of) 1),some (bK (List.map iV en) 1)],AV.tup [])))))
def cnfStep(z:SeD)(g:AgD)(d:BdD)(dn up:List FrD)(of en:List Int)(y:FrD):Empty->Option (Empty⊕Ret)
 | x=>x.elim
theorem cnfEn_ok(z:SeD)(g:AgD)(d:BdD)(dn up:List FrD)(of en:List Int)(y:FrD)(o:Empty⊕Ret)(h:KQ z g d dn up of en y=some o):Arr Try.prog Try.f90 1 (cnfSt z g d dn up of en y) cnfHd (zB Try.f90) [] {n:=Try.f90.ntmps,fr:=An 0 ([.ptr 0 0 0,frA y]),hp:=([some {es:=[raM z g d (.sl 1 0 dn.length) (.sl 2 0 up.length) (.sl 3 0 of.length) (.sl 4 0 en.length)],z:=17,flat:=false},some {es:=dn.map frA,z:=5},some {es:=up.map frA,z:=5},some {es:=of.map (AV.int .i64),z:=1},some {es:=en.map (AV.int .i64),z:=1}])} o:=
 Scr.ok h mix (
 .rn 1 [] [] [] [] (aj s2 (al (u2 (u2 s2)))) <|
 .br (fun a0=>
 .rt [13] [] [] [] [0,1,2,3,4] [] (aj (al a0) (ak (aj (al (ak (k3 (k5 t9)))) t5))))
 (fun a0=>
 .br (fun a1=>
  have c0:=cfm_c z (y.q);
  .rn 1 [12,27] [] [(26,hK c0 [] [])] [] (aj a0 (aj (u2 (u2 (u2 (u2 (u2 (u2 (u2 (aj a1 (aj a1 (aj a1 (al (aj a1 t2)))))))))))) (ak (al (u2 (u2 (u2 (u2 (u2 (u2 (u2 (aj (k2 (aj t5 (ak (al (c0))))) (u2 (u2 (u2 (u2 (u2 (al t3)))))))))))))))))) <|
  .gu fun a2=>
  have c1:=Gw (dn) (FrD.mk 3 0 y.q 0 y.f);
  .rt [27] [] [(41,hK c1 [] [1])] [] [0,6,2,3,4] [] (aj (al (u2 (u2 (u2 (u2 (u2 (u2 (u2 (u2 (u2 (aj t3 (aj (k2 (aj (show dn.length=(List.map frA dn).length by simp) (aj t6 (aj (c1) a2)))) (u2 (u2 (al t3))))))))))))))) (ak (aj (al (ak (k3 (k5 t9)))) t5))))
 (fun a1=>
  .rn 0 [12,26] [] [] [] (aj a0 (al (u2 (u2 (u2 (u2 (u2 (u2 (u2 (ag a1 (ag a1 (ag a1 (al (aj a1 t2)))))))))))))) <|
  .br (fun a2=>
  have c0:=cfm_c z (y.q);
  .rn 0 [26,35] [] [(26,hK c0 [] [])] [] (aj a2 (al (u2 (u2 (u2 (u2 (u2 (u2 (u2 (aj (k2 (aj t5 (ak (al (c0))))) (u2 (u2 (u2 (u2 (u2 (al t3)))))))))))))))) <|
  .gu fun a3=>
  have c1:=Gw (dn) (FrD.mk 3 0 y.q 0 y.f);
  .rt [26] [] [(41,hK c1 [] [1])] [] [0,6,2,3,4] [] (aj (al (u2 (u2 (u2 (u2 (u2 (u2 (u2 (u2 (u2 (aj t3 (aj (k2 (aj (show dn.length=(List.map frA dn).length by simp) (aj t6 (aj (c1) a3)))) (u2 (u2 (al t3))))))))))))))) (ak (aj (al (ak (k3 (k5 t9)))) t5))))
  (fun a2=>
  .gu fun a3=>
  have c0:=Gw (dn) (FrD.mk 3 0 y.q 0 y.f);
  .rt [26,34] [] [(41,hK c0 [] [1])] [] [0,6,2,3,4] [] (aj (aj a2 (al (u2 (u2 (u2 (u2 (u2 (u2 (u2 (u2 (u2 (aj t3 (aj (k2 (aj (show dn.length=(List.map frA dn).length by simp) (aj t6 (aj (c0) a3)))) (u2 (u2 (al t3)))))))))))))))) (ak (aj (al (ak (k3 (k5 t9)))) t5))))))) (by kernel_rfl)
theorem cnf_ct(z:SeD)(g:AgD)(d:BdD)(dn up:List FrD)(of en:List Int)(y:FrD)(r:Ret)(h:Aj (cnfStep z g d dn up of en y) (KQ z g d dn up of en y) r)(hi:BT 3 r.2=true/\∀blk,some blk∈r.1->AZ blk):CTX Try.prog 90 ([some {es:=[raM z g d (.sl 1 0 dn.length) (.sl 2 0 up.length) (.sl 3 0 of.length) (.sl 4 0 en.length)],z:=17,flat:=false},some {es:=dn.map frA,z:=5},some {es:=up.map frA,z:=5},some {es:=of.map (AV.int .i64),z:=1},some {es:=en.map (AV.int .i64),z:=1}]) ([.ptr 0 0 0,frA y]) r.1 r.2:=
 CTX.mach (fn:=Try.f90) (c:=zB Try.f90) (S:=cnfSt z g d dn up of en y) (hd:=cnfHd) Try.func90 (by kernel_rfl) (nL rfl) (nL rfl)
  (fun s o ho=>match s,ho with
   | x,_=>x.elim)
  (fun o ho=>cnfEn_ok z g d dn up of en y o ho) h hi
inductive D5 where
 | l0 (v0:Int) (v1:List FrD)
def JA(z:SeD)(g:AgD)(d:BdD)(dn up:List FrD)(of en:List Int)(m:List FrD):D5->St
 | .l0 v0 v1=>St.mk 22 [(0,AV.ptr 0 0 0),(6,AV.lst (List.map frA m)),(7,iv (iN (List.map frA m).length)),(8,iv v0)] [some (Blk.mk [AV.agg [uV z.q,bV z.o,iv z.c,iv z.f,uV g.l,iv g.t,bV g.s,iv g.r,iv g.c,iv d.c,iv d.t,bV d.s,bV d.f,AV.sl 1 0 dn.length,AV.sl 2 0 v1.length,AV.sl 3 0 of.length,AV.sl 4 0 en.length]] 17 false true none),some (bK (List.map frA dn) 5),some (bK (List.map frA v1) 5),some (bK (List.map (iv) of) 1),some (bK (List.map (iv) en) 1)]
def LD:D5->Nat
 | .l0 _ _=>0
def LV(z:SeD)(g:AgD)(d:BdD)(dn up:List FrD)(of en:List Int)(m:List FrD):Option (D5⊕Ret):=
 some (.inl (.l0 ((0:Int)) (up)))
def Gp(z:SeD)(g:AgD)(d:BdD)(dn up:List FrD)(of en:List Int)(m:List FrD)(v0:Int)(v1:List FrD):Option (D5⊕Ret):=
 br (decide (v0<iN (List.map frA m).length))
 (gu (0<=v0) <|
  el m (v0.toNat) fun(x10:FrD)=>
  gu (∀(blk:Blk),blk∈[fB (AE v1 x10)]->AZ blk) <|
  some (.inl (.l0 (i64.wrap (v0+1)) (AE v1 x10))))
 (some (.inr ([some (Blk.mk [rV z g d [AV.sl 1 0 dn.length,AV.sl 2 0 v1.length,AV.sl 3 0 of.length,AV.sl 4 0 en.length]] 17 false true none),some (bK (List.map frA dn) 5),some (bK (List.map frA v1) 5),some (bK (List.map iV of) 1),some (bK (List.map iV en) 1)],AV.tup [])))
def ansStep(z:SeD)(g:AgD)(d:BdD)(dn up:List FrD)(of en:List Int)(m:List FrD):D5->Option (D5⊕Ret)
 | .l0 v0 v1=>Gp z g d dn up of en m v0 v1
theorem ansEn_ok(z:SeD)(g:AgD)(d:BdD)(dn up:List FrD)(of en:List Int)(m:List FrD)(o:D5⊕Ret)(h:LV z g d dn up of en m=some o):Arr Try.prog Try.f72 1 (JA z g d dn up of en m) LD (zB Try.f72) [] {n:=Try.f72.ntmps,fr:=An 0 ([.ptr 0 0 0,.lst (m.map frA)]),hp:=([some {es:=[raM z g d (.sl 1 0 dn.length) (.sl 2 0 up.length) (.sl 3 0 of.length) (.sl 4 0 en.length)],z:=17,flat:=false},some {es:=dn.map frA,z:=5},some {es:=up.map frA,z:=5},some {es:=of.map (AV.int .i64),z:=1},some {es:=en.map (AV.int .i64),z:=1}])} o:=
 Scr.ok h mix (
 .lp [] [] [] [] [] [0,1,2,3,4] [0,6,7,8] (aj (al (u2 (u2 t2))) (ak (k3 (aj (al (ak (k3 (k5 t9)))) t5))))) (by kernel_rfl)
theorem ansS0_ok(z:SeD)(g:AgD)(d:BdD)(dn up:List FrD)(of en:List Int)(m:List FrD)(v0:Int)(v1:List FrD)(o:D5⊕Ret)(h:Gp z g d dn up of en m v0 v1=some o):Arr Try.prog Try.f72 1 (JA z g d dn up of en m) LD (AM Try.f72 0) (.rnd (AM Try.f72 0)::Bw Try.f72 0) (JA z g d dn up of en m (.l0 v0 v1)) o:=
 Scr.ok h mix (
 .rn 0 [] [] [] [] (al (al t3)) <|
 .br (fun a0=>
 .gu fun a1=>
 .el fun x10 a2=>
 .rn 0 [19] [(10,frA x10)] [] [] (aj a0 (al (aj (k2 (aj a1 (A2 (f:=frA) a2))) (u2 (ak (al (k2 n11))))))) <|
 .gu fun a3=>
 have c0:=Gw v1 (x10);
 .lp [] [] [(18,hK c0 [] [2])] [] [] [0,1,6,3,4] [0,6,7,8] (aj (aj (u2 (u2 (u2 (u2 (u2 (u2 (aj (k2 (aj (show v1.length=(List.map frA v1).length by simp) (aj t6 (aj (c0) a3)))) (u2 (u2 (al t3)))))))))) (al (u2 s2))) (ak (k3 (aj (al (ak (k3 (k5 t9)))) t5)))))
 (fun a0=>
 .rt [18] [] [] [] [0,1,2,3,4] [] (aj (al a0) (ak (aj (al (ak (k3 (k5 t9)))) t5))))) (by kernel_rfl)
theorem ans_ct(z:SeD)(g:AgD)(d:BdD)(dn up:List FrD)(of en:List Int)(m:List FrD)(r:Ret)(h:Aj (ansStep z g d dn up of en m) (LV z g d dn up of en m) r)(hi:BT 3 r.2=true/\∀blk,some blk∈r.1->AZ blk):CTX Try.prog 72 ([some {es:=[raM z g d (.sl 1 0 dn.length) (.sl 2 0 up.length) (.sl 3 0 of.length) (.sl 4 0 en.length)],z:=17,flat:=false},some {es:=dn.map frA,z:=5},some {es:=up.map frA,z:=5},some {es:=of.map (AV.int .i64),z:=1},some {es:=en.map (AV.int .i64),z:=1}]) ([.ptr 0 0 0,.lst (m.map frA)]) r.1 r.2:=
 CTX.mach (fn:=Try.f72) (c:=zB Try.f72) (S:=JA z g d dn up of en m) (hd:=LD) Try.func72 (by kernel_rfl) (nL rfl) (nL rfl)
  (fun s o ho=>match s,ho with
   | .l0 v0 v1,ho=>ansS0_ok z g d dn up of en m v0 v1 o ho
  )
  (fun o ho=>ansEn_ok z g d dn up of en m o ho) h hi
theorem Ku(l:List FrD):AZ (fB l):=fun e he c hc=>by
 obtain⟨x,_,rfl⟩:=RF.1 he
 simp[frA,AV.cells] at hc
 rcases hc with rfl | rfl | rfl | rfl | rfl<;>rfl
theorem immIB(l:List Int):AZ (iB l):=fun e he c hc=>by
 obtain⟨x,_,rfl⟩:=RF.1 he
 simp[AV.cells] at hc
 subst hc;rfl
theorem immRB{z:SeD}{g:AgD}{d:BdD}{dn up:List FrD}{of en:List Int}:AZ (rB z g d dn up of en):=fun e he c hc=>by
 simp[rB] at he
 subst he
 exact Rp.1 (show List.all (AV.cells (raM z g d (.sl 1 0 dn.length) (.sl 2 0 up.length) (.sl 3 0 of.length) (.sl 4 0 en.length))) (BT 1)=true from rfl) c hc
theorem GL{z:SeD}{g:AgD}{d:BdD}{dn up:List FrD}{of en:List Int}:∀blk,some blk∈[some (rB z g d dn up of en),some (fB dn),some (fB up),some (iB of),some (iB en)]->AZ blk:=fun blk h=>by
 simp at h
 rcases h with rfl | rfl | rfl | rfl | rfl
 .exact immRB
 .exact Ku _
 .exact Ku _
 .exact immIB _
 .exact immIB _
theorem CS(l:List FrD):∀blk:Blk,blk∈[fB l]->AZ blk:=fun blk h=>by
 rw[List.mem_singleton.1 h];exact Ku l
theorem cnf_c(z:SeD)(g:AgD)(d:BdD)(dn up:List FrD)(of en:List Int)(y:FrD):CTX Try.prog 90 [some (rB z g d dn up of en),some (fB dn),some (fB up),some (iB of),some (iB en)] [.ptr 0 0 0,frA y]
  [some (rB (Bg z dn y).s g d (Bg z dn y).dn up of en),some (fB (Bg z dn y).dn),some (fB up),some (iB of),some (iB en)] (.tup []):=by
 refine cnf_ct z g d dn up of en y ([_,_,_,_,_],_) (.val ?_) ⟨rfl,GL⟩
 unfold KQ Bg
 simp only[bne]
 cases y.k==2 with
 | false=>rfl
 | true=>cases z.f==0<;>cases y.f==2<;>exact Ac (CS _)
theorem EK(z:SeD)(g:AgD)(d:BdD)(dn up:List FrD)(of en:List Int)(m:List FrD)(hm:m.length<=1000000):CTX Try.prog 72 [some (rB z g d dn up of en),some (fB dn),some (fB up),some (iB of),some (iB en)] [.ptr 0 0 0,.lst (m.map frA)]
  [some (rB z g d dn (Ax up m) of en),some (fB dn),some (fB (Ax up m)),some (iB of),some (iB en)] (.tup []):=by
 refine ans_ct z g d dn up of en m ([_,_,_,_,_],_) ?_ ⟨rfl,GL⟩
 unfold LV
 refine GG (fun i=>D5.l0 (i:Int) (Ax up (m.take i))) m.length (fun i hi h=>?_) ?_
 .refine .to (show Gp z g d dn up of en m i _=_ from ?_) h
  unfold Gp
  rw[FM fr0 hi,zW i (by omega),List.take_add_one,Cs fr0 hi,Option.toList_some]
  refine(Ac (CS _)).trans ?_
  unfold Ax
  rw[List.foldl_append];rfl
 .refine .to (show Gp z g d dn up of en m m.length _=_ from ?_) (.ret _)
  unfold Gp
  rw[Gi,List.take_length];rfl
def trdSt(z:SeD)(g:AgD)(d:BdD)(dn up:List FrD)(of en:List Int)(y:EvD):Empty->St
 | x=>x.elim
def trdHd:Empty->Nat
 | x=>x.elim
def Ki(z:SeD)(g:AgD)(d:BdD)(dn up:List FrD)(of en:List Int)(y:EvD):Option (Empty⊕Ret):=
 br (y.k==4)
 (gu (∀(blk:Blk),blk∈[fB (Bk dn y.b).l]->AZ blk) <|
  some (.inr ([some (Blk.mk [rV z g d [AV.sl 1 0 (Bk dn y.b).l.length,AV.sl 2 0 up.length,AV.sl 3 0 of.length,AV.sl 4 0 en.length]] 17 false true none),some (bK (List.map frA (Bk dn y.b).l) 5),some (bK (List.map frA up) 5),some (bK (List.map iV of) 1),some (bK (List.map iV en) 1)],bV (Bk dn y.b).o)))
 (br (y.k==5)
  (gu (∀(blk:Blk),blk∈[fB (Bk dn y.b).l]->AZ blk) <|
   some (.inr ([some (Blk.mk [rV z g d [AV.sl 1 0 (Bk dn y.b).l.length,AV.sl 2 0 up.length,AV.sl 3 0 of.length,AV.sl 4 0 en.length]] 17 false true none),some (bK (List.map frA (Bk dn y.b).l) 5),some (bK (List.map frA up) 5),some (bK (List.map iV of) 1),some (bK (List.map iV en) 1)],bV (Bk dn y.b).o)))
  (br (y.k==6)
   (gu (∀(blk:Blk),blk∈[fB (A9 dn y.b).l]->AZ blk) <|
    some (.inr ([some (Blk.mk [rV z g d [AV.sl 1 0 (A9 dn y.b).l.length,AV.sl 2 0 up.length,AV.sl 3 0 of.length,AV.sl 4 0 en.length]] 17 false true none),some (bK (List.map frA (A9 dn y.b).l) 5),some (bK (List.map frA up) 5),some (bK (List.map iV of) 1),some (bK (List.map iV en) 1)],bV (A9 dn y.b).o)))
   (br (y.k==7)
    (gu (∀(blk:Blk),blk∈[fB (A9 dn y.b).l]->AZ blk) <|
     some (.inr ([some (Blk.mk [rV z g d [AV.sl 1 0 (A9 dn y.b).l.length,AV.sl 2 0 up.length,AV.sl 3 0 of.length,AV.sl 4 0 en.length]] 17 false true none),some (bK (List.map frA (A9 dn y.b).l) 5),some (bK (List.map frA up) 5),some (bK (List.map iV of) 1),some (bK (List.map iV en) 1)],bV (A9 dn y.b).o)))
    (gu (∀(blk:Blk),blk∈[fB (Ag dn y.b).l]->AZ blk) <|
     br (!(Ag dn y.b).o)
     (some (.inr ([some (Blk.mk [rV z g d [AV.sl 1 0 dn.length,AV.sl 2 0 up.length,AV.sl 3 0 of.length,AV.sl 4 0 en.length]] 17 false true none),some (bK (List.map frA dn) 5),some (bK (List.map frA up) 5),some (bK (List.map iV of) 1),some (bK (List.map iV en) 1)],bV false)))
     (br (y.k==3)
      (some (.inr ([some (Blk.mk [rV (Bg z (Ag dn y.b).l (Ag dn y.b).x).s g d [AV.sl 1 0 (Bg z (Ag dn y.b).l (Ag dn y.b).x).dn.length,AV.sl 2 0 up.length,AV.sl 3 0 of.length,AV.sl 4 0 en.length]] 17 false true none),some (bK (List.map frA (Bg z (Ag dn y.b).l (Ag dn y.b).x).dn) 5),some (bK (List.map frA up) 5),some (bK (List.map iV of) 1),some (bK (List.map iV en) 1)],bV true)))
      (br (!d.f)
       (gu ((heO g 0 (Ag dn y.b).x).l.length<=1000000) <|
        some (.inr ([some (Blk.mk [rV z (heO g 0 (Ag dn y.b).x).a d [AV.sl 1 0 (Ag dn y.b).l.length,AV.sl 2 0 (Ax up (heO g 0 (Ag dn y.b).x).l).length,AV.sl 3 0 of.length,AV.sl 4 0 en.length]] 17 false true none),some (bK (List.map frA (Ag dn y.b).l) 5),some (bK (List.map frA (Ax up (heO g 0 (Ag dn y.b).x).l)) 5),some (bK (List.map iV of) 1),some (bK (List.map iV en) 1)],bV true)))
       (some (.inr ([some (Blk.mk [rV z g d [AV.sl 1 0 (Ag dn y.b).l.length,AV.sl 2 0 up.length,AV.sl 3 0 of.length,AV.sl 4 0 en.length]] 17 false true none),some (bK (List.map frA (Ag dn y.b).l) 5),some (bK (List.map frA up) 5),some (bK (List.map iV of) 1),some (bK (List.map iV en) 1)],bV true)))))))))
def trdStep(z:SeD)(g:AgD)(d:BdD)(dn up:List FrD)(of en:List Int)(y:EvD):Empty->Option (Empty⊕Ret)
 | x=>x.elim
theorem trdEn_ok(z:SeD)(g:AgD)(d:BdD)(dn up:List FrD)(of en:List Int)(y:EvD)(o:Empty⊕Ret)(h:Ki z g d dn up of en y=some o):Arr Try.prog Try.f71 1 (trdSt z g d dn up of en y) trdHd (zB Try.f71) [] {n:=Try.f71.ntmps,fr:=An 0 ([.ptr 0 0 0,.ptr 0 0 13,evA y]),hp:=([some {es:=[raM z g d (.sl 1 0 dn.length) (.sl 2 0 up.length) (.sl 3 0 of.length) (.sl 4 0 en.length)],z:=17,flat:=false},some {es:=dn.map frA,z:=5},some {es:=up.map frA,z:=5},some {es:=of.map (AV.int .i64),z:=1},some {es:=en.map (AV.int .i64),z:=1}])} o:=
 Scr.ok h mix (
 .rn 3 [] [] [] [] (ag t2 (u2 (aj (u2 s2) (al (u2 s2))))) <|
 .br (fun a0=>
 .gu fun a1=>
 have c0:=Jx (dn) (y.b);
 .rt [29] [] [(24,hK c0 [] [1])] [] [0,6,2,3,4] [] (aj (aj a0 (ak (aj (u2 (u2 (u2 (u2 (u2 (u2 (aj (k2 (aj (show dn.length=(List.map frA dn).length by simp) (ak (aj (c0) a1)))) (u2 (u2 (u2 (u2 (aj t3 s2)))))))))))) (al (u2 s2))))) (ak (aj (al (ak (k3 (k5 t9)))) t5))))
 (fun a0=>
 .rn 0 [28] [] [] [] (aj a0 (al (u2 s2))) <|
 .br (fun a1=>
  .gu fun a2=>
  have c0:=Jx (dn) (y.b);
  .rt [29] [] [(24,hK c0 [] [1])] [] [0,6,2,3,4] [] (aj (aj a1 (aj (u2 (u2 (u2 (u2 (u2 (u2 (aj (k2 (aj (show dn.length=(List.map frA dn).length by simp) (ak (aj (c0) a2)))) (u2 (u2 (u2 (u2 (aj t3 s2)))))))))))) (al (u2 s2)))) (ak (aj (al (ak (k3 (k5 t9)))) t5))))
 (fun a1=>
  .rn 0 [28] [] [] [] (aj a1 (al (u2 s2))) <|
  .br (fun a2=>
  .gu fun a3=>
  have c0:=HL (dn) (y.b);
  .rt [59] [] [(39,hK c0 [] [1])] [] [0,6,2,3,4] [] (aj (aj a2 (ak (aj (u2 (u2 (u2 (u2 (u2 (u2 (aj (k2 (aj (show dn.length=(List.map frA dn).length by simp) (ak (aj (c0) a3)))) (u2 (u2 (u2 (u2 (aj t3 s2)))))))))))) (al (u2 s2))))) (ak (aj (al (ak (k3 (k5 t9)))) t5))))
  (fun a2=>
  .rn 0 [58] [] [] [] (aj a2 (al (u2 s2))) <|
  .br (fun a3=>
   .gu fun a4=>
   have c0:=HL (dn) (y.b);
   .rt [59] [] [(39,hK c0 [] [1])] [] [0,6,2,3,4] [] (aj (aj a3 (aj (u2 (u2 (u2 (u2 (u2 (u2 (aj (k2 (aj (show dn.length=(List.map frA dn).length by simp) (ak (aj (c0) a4)))) (u2 (u2 (u2 (u2 (aj t3 s2)))))))))))) (al (u2 s2)))) (ak (aj (al (ak (k3 (k5 t9)))) t5))))
  (fun a3=>
   .gu fun a4=>
   have c0:=LH (dn) (y.b);
   .rn 1 [58] [] [(50,hK c0 [] [1])] [] (aj a3 (aj (u2 (u2 (u2 (u2 (u2 (aj (k2 (aj (show dn.length=(List.map frA dn).length by simp) (ak (aj (c0) a4)))) (u2 (u2 (u2 (u2 (ak (aj (k2 n11) (u2 s2))))))))))))) (al (u2 s2)))) <|
   .br (fun a5=>
   .rt [111] [] [] [] [0,1,2,3,4] [] (aj (aj a5 s2) (ak (aj (al (ak (k3 (k5 t9)))) t5))))
   (fun a5=>
   .rn 1 [110] [] [] [] (aj a5 (aj (u2 (u2 (u2 (al t3)))) (al (u2 (u2 (u2 s2)))))) <|
   .br (fun a6=>
    have c1:=cnf_c z g d ((Ag dn y.b).l) (up) (of) (en) ((Ag dn y.b).x);
    .rt [119] [] [(65,hKO c1 [0,6,2,3,4] [])] [] [0,8,9,10,11] [] (aj (aj a6 (aj (u2 (u2 (al (k3 (aj t6 (aj (al (ak (k3 (k5 t9)))) (ak (k3 (c1))))))))) s2)) (ak (aj (al (ak (k3 (k5 t9)))) t5))))
   (fun a6=>
    .rn 0 [118] [] [] [] (aj a6 (al (u2 (u2 (u2 (u2 (u2 (u2 s2)))))))) <|
    .br (fun a7=>
    have c1:=aHe_c g (0) ((Ag dn y.b).x);
    .rn 1 [133] [] [(79,hK c1 [] [])] [] (aj a7 (aj (u2 (u2 (u2 (u2 (u2 (aj (k2 (aj t6 (ak (aj t6 (al (c1)))))) (u2 (u2 (u2 (ak (aj (k2 n11) s2))))))))))) (al (u2 (u2 (u2 (u2 (al t3)))))))) <|
    .gu fun a8=>
    have c2:=EK z ((heO g 0 (Ag dn y.b).x).a) d ((Ag dn y.b).l) (up) (of) (en) ((heO g 0 (Ag dn y.b).x).l) a8;
    .rt [] [] [(88,hKO c2 [0,6,2,3,4] [])] [] [0,9,10,11,12] [] (aj (aj (u2 (u2 (al (ak (k3 (aj (al (ak (k3 (k5 t9)))) (ak (k3 (c2))))))))) s2) (ak (aj (al (ak (k3 (k5 t9)))) t5))))
    (fun a7=>
    .rt [132] [] [] [] [0,6,2,3,4] [] (aj (aj a7 s2) (ak (aj (al (ak (k3 (k5 t9)))) t5))))))))))) (by kernel_rfl)
theorem trd_ct(z:SeD)(g:AgD)(d:BdD)(dn up:List FrD)(of en:List Int)(y:EvD)(r:Ret)(h:Aj (trdStep z g d dn up of en y) (Ki z g d dn up of en y) r)(hi:BT 3 r.2=true/\∀blk,some blk∈r.1->AZ blk):CTX Try.prog 71 ([some {es:=[raM z g d (.sl 1 0 dn.length) (.sl 2 0 up.length) (.sl 3 0 of.length) (.sl 4 0 en.length)],z:=17,flat:=false},some {es:=dn.map frA,z:=5},some {es:=up.map frA,z:=5},some {es:=of.map (AV.int .i64),z:=1},some {es:=en.map (AV.int .i64),z:=1}]) ([.ptr 0 0 0,.ptr 0 0 13,evA y]) r.1 r.2:=
 CTX.mach (fn:=Try.f71) (c:=zB Try.f71) (S:=trdSt z g d dn up of en y) (hd:=trdHd) Try.func71 (by kernel_rfl) (nL rfl) (nL rfl)
  (fun s o ho=>match s,ho with
   | x,_=>x.elim)
  (fun o ho=>trdEn_ok z g d dn up of en y o ho) h hi
def truSt(z:SeD)(g:AgD)(d:BdD)(dn up:List FrD)(of en:List Int)(y:EvD):Empty->St
 | x=>x.elim
def truHd:Empty->Nat
 | x=>x.elim
def KI(z:SeD)(g:AgD)(d:BdD)(dn up:List FrD)(of en:List Int)(y:EvD):Option (Empty⊕Ret):=
 br (y.k==4)
 (gu (∀(blk:Blk),blk∈[fB (Bk up y.b).l]->AZ blk) <|
  some (.inr ([some (Blk.mk [rV z g d [AV.sl 1 0 dn.length,AV.sl 2 0 (Bk up y.b).l.length,AV.sl 3 0 of.length,AV.sl 4 0 en.length]] 17 false true none),some (bK (List.map frA dn) 5),some (bK (List.map frA (Bk up y.b).l) 5),some (bK (List.map iV of) 1),some (bK (List.map iV en) 1)],bV (Bk up y.b).o)))
 (br (y.k==5)
  (gu (∀(blk:Blk),blk∈[fB (Bk up y.b).l]->AZ blk) <|
   some (.inr ([some (Blk.mk [rV z g d [AV.sl 1 0 dn.length,AV.sl 2 0 (Bk up y.b).l.length,AV.sl 3 0 of.length,AV.sl 4 0 en.length]] 17 false true none),some (bK (List.map frA dn) 5),some (bK (List.map frA (Bk up y.b).l) 5),some (bK (List.map iV of) 1),some (bK (List.map iV en) 1)],bV (Bk up y.b).o)))
  (br (y.k==6)
   (gu (∀(blk:Blk),blk∈[fB (A9 up y.b).l]->AZ blk) <|
    some (.inr ([some (Blk.mk [rV z g d [AV.sl 1 0 dn.length,AV.sl 2 0 (A9 up y.b).l.length,AV.sl 3 0 of.length,AV.sl 4 0 en.length]] 17 false true none),some (bK (List.map frA dn) 5),some (bK (List.map frA (A9 up y.b).l) 5),some (bK (List.map iV of) 1),some (bK (List.map iV en) 1)],bV (A9 up y.b).o)))
   (br (y.k==7)
    (gu (∀(blk:Blk),blk∈[fB (A9 up y.b).l]->AZ blk) <|
     some (.inr ([some (Blk.mk [rV z g d [AV.sl 1 0 dn.length,AV.sl 2 0 (A9 up y.b).l.length,AV.sl 3 0 of.length,AV.sl 4 0 en.length]] 17 false true none),some (bK (List.map frA dn) 5),some (bK (List.map frA (A9 up y.b).l) 5),some (bK (List.map iV of) 1),some (bK (List.map iV en) 1)],bV (A9 up y.b).o)))
    (gu (∀(blk:Blk),blk∈[fB (Ag up y.b).l]->AZ blk) <|
     br (!(Ag up y.b).o)
     (some (.inr ([some (Blk.mk [rV z g d [AV.sl 1 0 dn.length,AV.sl 2 0 up.length,AV.sl 3 0 of.length,AV.sl 4 0 en.length]] 17 false true none),some (bK (List.map frA dn) 5),some (bK (List.map frA up) 5),some (bK (List.map iV of) 1),some (bK (List.map iV en) 1)],bV false)))
     (br (y.k==3)
      (some (.inr ([some (Blk.mk [rV (Bg z dn (Ag up y.b).x).s g d [AV.sl 1 0 (Bg z dn (Ag up y.b).x).dn.length,AV.sl 2 0 (Ag up y.b).l.length,AV.sl 3 0 of.length,AV.sl 4 0 en.length]] 17 false true none),some (bK (List.map frA (Bg z dn (Ag up y.b).x).dn) 5),some (bK (List.map frA (Ag up y.b).l) 5),some (bK (List.map iV of) 1),some (bK (List.map iV en) 1)],bV true)))
      (br (!d.f)
       (gu ((heO g 0 (Ag up y.b).x).l.length<=1000000) <|
        some (.inr ([some (Blk.mk [rV z (heO g 0 (Ag up y.b).x).a d [AV.sl 1 0 dn.length,AV.sl 2 0 (Ax (Ag up y.b).l (heO g 0 (Ag up y.b).x).l).length,AV.sl 3 0 of.length,AV.sl 4 0 en.length]] 17 false true none),some (bK (List.map frA dn) 5),some (bK (List.map frA (Ax (Ag up y.b).l (heO g 0 (Ag up y.b).x).l)) 5),some (bK (List.map iV of) 1),some (bK (List.map iV en) 1)],bV true)))
       (some (.inr ([some (Blk.mk [rV z g d [AV.sl 1 0 dn.length,AV.sl 2 0 (Ag up y.b).l.length,AV.sl 3 0 of.length,AV.sl 4 0 en.length]] 17 false true none),some (bK (List.map frA dn) 5),some (bK (List.map frA (Ag up y.b).l) 5),some (bK (List.map iV of) 1),some (bK (List.map iV en) 1)],bV true)))))))))
def truStep(z:SeD)(g:AgD)(d:BdD)(dn up:List FrD)(of en:List Int)(y:EvD):Empty->Option (Empty⊕Ret)
 | x=>x.elim
theorem truEn_ok(z:SeD)(g:AgD)(d:BdD)(dn up:List FrD)(of en:List Int)(y:EvD)(o:Empty⊕Ret)(h:KI z g d dn up of en y=some o):Arr Try.prog Try.f71 1 (truSt z g d dn up of en y) truHd (zB Try.f71) [] {n:=Try.f71.ntmps,fr:=An 0 ([.ptr 0 0 0,.ptr 0 0 14,evA y]),hp:=([some {es:=[raM z g d (.sl 1 0 dn.length) (.sl 2 0 up.length) (.sl 3 0 of.length) (.sl 4 0 en.length)],z:=17,flat:=false},some {es:=dn.map frA,z:=5},some {es:=up.map frA,z:=5},some {es:=of.map (AV.int .i64),z:=1},some {es:=en.map (AV.int .i64),z:=1}])} o:=
 Scr.ok h mix (
 .rn 3 [] [] [] [] (ag t2 (u2 (aj (u2 s2) (al (u2 s2))))) <|
 .br (fun a0=>
 .gu fun a1=>
 have c0:=Jx (up) (y.b);
 .rt [29] [] [(24,hK c0 [] [2])] [] [0,1,6,3,4] [] (aj (aj a0 (ak (aj (u2 (u2 (u2 (u2 (u2 (u2 (aj (k2 (aj (show up.length=(List.map frA up).length by simp) (ak (aj (c0) a1)))) (u2 (u2 (u2 (u2 (aj t3 s2)))))))))))) (al (u2 s2))))) (ak (aj (al (ak (k3 (k5 t9)))) t5))))
 (fun a0=>
 .rn 0 [28] [] [] [] (aj a0 (al (u2 s2))) <|
 .br (fun a1=>
  .gu fun a2=>
  have c0:=Jx (up) (y.b);
  .rt [29] [] [(24,hK c0 [] [2])] [] [0,1,6,3,4] [] (aj (aj a1 (aj (u2 (u2 (u2 (u2 (u2 (u2 (aj (k2 (aj (show up.length=(List.map frA up).length by simp) (ak (aj (c0) a2)))) (u2 (u2 (u2 (u2 (aj t3 s2)))))))))))) (al (u2 s2)))) (ak (aj (al (ak (k3 (k5 t9)))) t5))))
 (fun a1=>
  .rn 0 [28] [] [] [] (aj a1 (al (u2 s2))) <|
  .br (fun a2=>
  .gu fun a3=>
  have c0:=HL (up) (y.b);
  .rt [59] [] [(39,hK c0 [] [2])] [] [0,1,6,3,4] [] (aj (aj a2 (ak (aj (u2 (u2 (u2 (u2 (u2 (u2 (aj (k2 (aj (show up.length=(List.map frA up).length by simp) (ak (aj (c0) a3)))) (u2 (u2 (u2 (u2 (aj t3 s2)))))))))))) (al (u2 s2))))) (ak (aj (al (ak (k3 (k5 t9)))) t5))))
  (fun a2=>
  .rn 0 [58] [] [] [] (aj a2 (al (u2 s2))) <|
  .br (fun a3=>
   .gu fun a4=>
   have c0:=HL (up) (y.b);
   .rt [59] [] [(39,hK c0 [] [2])] [] [0,1,6,3,4] [] (aj (aj a3 (aj (u2 (u2 (u2 (u2 (u2 (u2 (aj (k2 (aj (show up.length=(List.map frA up).length by simp) (ak (aj (c0) a4)))) (u2 (u2 (u2 (u2 (aj t3 s2)))))))))))) (al (u2 s2)))) (ak (aj (al (ak (k3 (k5 t9)))) t5))))
  (fun a3=>
   .gu fun a4=>
   have c0:=LH (up) (y.b);
   .rn 1 [58] [] [(50,hK c0 [] [2])] [] (aj a3 (aj (u2 (u2 (u2 (u2 (u2 (aj (k2 (aj (show up.length=(List.map frA up).length by simp) (ak (aj (c0) a4)))) (u2 (u2 (u2 (u2 (ak (aj (k2 n11) (u2 s2))))))))))))) (al (u2 s2)))) <|
   .br (fun a5=>
   .rt [111] [] [] [] [0,1,2,3,4] [] (aj (aj a5 s2) (ak (aj (al (ak (k3 (k5 t9)))) t5))))
   (fun a5=>
   .rn 1 [110] [] [] [] (aj a5 (aj (u2 (u2 (u2 (al t3)))) (al (u2 (u2 (u2 s2)))))) <|
   .br (fun a6=>
    have c1:=cnf_c z g d (dn) ((Ag up y.b).l) (of) (en) ((Ag up y.b).x);
    .rt [119] [] [(65,hKO c1 [0,1,6,3,4] [])] [] [0,8,9,10,11] [] (aj (aj a6 (aj (u2 (u2 (al (k3 (aj t6 (aj (al (ak (k3 (k5 t9)))) (ak (k3 (c1))))))))) s2)) (ak (aj (al (ak (k3 (k5 t9)))) t5))))
   (fun a6=>
    .rn 0 [118] [] [] [] (aj a6 (al (u2 (u2 (u2 (u2 (u2 (u2 s2)))))))) <|
    .br (fun a7=>
    have c1:=aHe_c g (0) ((Ag up y.b).x);
    .rn 1 [133] [] [(79,hK c1 [] [])] [] (aj a7 (aj (u2 (u2 (u2 (u2 (u2 (aj (k2 (aj t6 (ak (aj t6 (al (c1)))))) (u2 (u2 (u2 (ak (aj (k2 n11) s2))))))))))) (al (u2 (u2 (u2 (u2 (al t3)))))))) <|
    .gu fun a8=>
    have c2:=EK z ((heO g 0 (Ag up y.b).x).a) d (dn) ((Ag up y.b).l) (of) (en) ((heO g 0 (Ag up y.b).x).l) a8;
    .rt [] [] [(88,hKO c2 [0,1,6,3,4] [])] [] [0,9,10,11,12] [] (aj (aj (u2 (u2 (al (ak (k3 (aj (al (ak (k3 (k5 t9)))) (ak (k3 (c2))))))))) s2) (ak (aj (al (ak (k3 (k5 t9)))) t5))))
    (fun a7=>
    .rt [132] [] [] [] [0,1,6,3,4] [] (aj (aj a7 s2) (ak (aj (al (ak (k3 (k5 t9)))) t5))))))))))) (by kernel_rfl)
theorem tru_ct(z:SeD)(g:AgD)(d:BdD)(dn up:List FrD)(of en:List Int)(y:EvD)(r:Ret)(h:Aj (truStep z g d dn up of en y) (KI z g d dn up of en y) r)(hi:BT 3 r.2=true/\∀blk,some blk∈r.1->AZ blk):CTX Try.prog 71 ([some {es:=[raM z g d (.sl 1 0 dn.length) (.sl 2 0 up.length) (.sl 3 0 of.length) (.sl 4 0 en.length)],z:=17,flat:=false},some {es:=dn.map frA,z:=5},some {es:=up.map frA,z:=5},some {es:=of.map (AV.int .i64),z:=1},some {es:=en.map (AV.int .i64),z:=1}]) ([.ptr 0 0 0,.ptr 0 0 14,evA y]) r.1 r.2:=
 CTX.mach (fn:=Try.f71) (c:=zB Try.f71) (S:=truSt z g d dn up of en y) (hd:=truHd) Try.func71 (by kernel_rfl) (nL rfl) (nL rfl)
  (fun s o ho=>match s,ho with
   | x,_=>x.elim)
  (fun o ho=>truEn_ok z g d dn up of en y o ho) h hi
structure TmD where
 z:SeD
 g:AgD
 dn:List FrD
 up:List FrD
 o:Bool
theorem Lo(a:AgD)(q:Int)(f:FrD):(heO a q f).l.length<=1:=by
 unfold heO
 cases frV f&&f.r==q with
 | false=>exact Rn _
 | true=>
  show(B9 a f).l.length<=1
  unfold B9
  cases f.k==1 with
  | true=>exact Rm _
  | false=>cases f.k==3&&(!(a.r==0)&&(f.q==a.l&&f.f==a.r))<;>exact Rn _
def AD(z:SeD)(g:AgD)(d:BdD)(dn up:List FrD)(y:EvD):TmD:=bif y.k==4||y.k==5 then ⟨z,g,(Bk dn y.b).l,up,(Bk dn y.b).o⟩
 else bif y.k==6||y.k==7 then ⟨z,g,(A9 dn y.b).l,up,(A9 dn y.b).o⟩
 else bif !(Ag dn y.b).o then ⟨z,g,dn,up,false⟩
 else bif y.k==3 then ⟨(Bg z (Ag dn y.b).l (Ag dn y.b).x).s,g,(Bg z (Ag dn y.b).l (Ag dn y.b).x).dn,up,true⟩
 else bif d.f then ⟨z,g,(Ag dn y.b).l,up,true⟩
 else ⟨z,(heO g 0 (Ag dn y.b).x).a,(Ag dn y.b).l,Ax up (heO g 0 (Ag dn y.b).x).l,true⟩
def AI(z:SeD)(g:AgD)(d:BdD)(dn up:List FrD)(y:EvD):TmD:=bif y.k==4||y.k==5 then ⟨z,g,dn,(Bk up y.b).l,(Bk up y.b).o⟩
 else bif y.k==6||y.k==7 then ⟨z,g,dn,(A9 up y.b).l,(A9 up y.b).o⟩
 else bif !(Ag up y.b).o then ⟨z,g,dn,up,false⟩
 else bif y.k==3 then ⟨(Bg z dn (Ag up y.b).x).s,g,(Bg z dn (Ag up y.b).x).dn,(Ag up y.b).l,true⟩
 else bif d.f then ⟨z,g,dn,(Ag up y.b).l,true⟩
 else ⟨z,(heO g 0 (Ag up y.b).x).a,dn,Ax (Ag up y.b).l (heO g 0 (Ag up y.b).x).l,true⟩
theorem K1(z:SeD)(g:AgD)(d:BdD)(dn up:List FrD)(of en:List Int)(y:EvD):CTX Try.prog 71 [some (rB z g d dn up of en),some (fB dn),some (fB up),some (iB of),some (iB en)] [.ptr 0 0 0,.ptr 0 0 13,evA y]
  [some (rB (AD z g d dn up y).z (AD z g d dn up y).g d (AD z g d dn up y).dn (AD z g d dn up y).up of en),some (fB (AD z g d dn up y).dn),some (fB (AD z g d dn up y).up),some (iB of),some (iB en)] (.bool (AD z g d dn up y).o):=by
 have hl:=Lo g 0 (Ag dn y.b).x
 refine trd_ct z g d dn up of en y ([some (rB (AD z g d dn up y).z (AD z g d dn up y).g d (AD z g d dn up y).dn (AD z g d dn up y).up of en),some (fB (AD z g d dn up y).dn),some (fB (AD z g d dn up y).up),some (iB of),some (iB en)],.bool (AD z g d dn up y).o) (.val ?_) ⟨rfl,GL⟩
 obtain⟨dc,dt,ds,df⟩:=d
 unfold Ki AD
 rw[Ac (show(heO g 0 (Ag dn y.b).x).l.length<=1000000 by omega),Ac (CS (Ag dn y.b).l)]
 cases y.k==4 with
 | true=>exact Ac (CS _)
 | false=>cases y.k==5 with
  | true=>exact Ac (CS _)
  | false=>cases y.k==6 with
   | true=>exact Ac (CS _)
   | false=>cases y.k==7 with
    | true=>exact Ac (CS _)
    | false=>cases (Ag dn y.b).o with
     | false=>rfl
     | true=>cases y.k==3 with
      | true=>rfl
      | false=>cases df<;>rfl
theorem Lj(z:SeD)(g:AgD)(d:BdD)(dn up:List FrD)(of en:List Int)(y:EvD):CTX Try.prog 71 [some (rB z g d dn up of en),some (fB dn),some (fB up),some (iB of),some (iB en)] [.ptr 0 0 0,.ptr 0 0 14,evA y]
  [some (rB (AI z g d dn up y).z (AI z g d dn up y).g d (AI z g d dn up y).dn (AI z g d dn up y).up of en),some (fB (AI z g d dn up y).dn),some (fB (AI z g d dn up y).up),some (iB of),some (iB en)] (.bool (AI z g d dn up y).o):=by
 have hl:=Lo g 0 (Ag up y.b).x
 refine tru_ct z g d dn up of en y ([some (rB (AI z g d dn up y).z (AI z g d dn up y).g d (AI z g d dn up y).dn (AI z g d dn up y).up of en),some (fB (AI z g d dn up y).dn),some (fB (AI z g d dn up y).up),some (iB of),some (iB en)],.bool (AI z g d dn up y).o) (.val ?_) ⟨rfl,GL⟩
 obtain⟨dc,dt,ds,df⟩:=d
 unfold KI AI
 rw[Ac (show(heO g 0 (Ag up y.b).x).l.length<=1000000 by omega),Ac (CS (Ag up y.b).l)]
 cases y.k==4 with
 | true=>exact Ac (CS _)
 | false=>cases y.k==5 with
  | true=>exact Ac (CS _)
  | false=>cases y.k==6 with
   | true=>exact Ac (CS _)
   | false=>cases y.k==7 with
    | true=>exact Ac (CS _)
    | false=>cases (Ag up y.b).o with
     | false=>rfl
     | true=>cases y.k==3 with
      | true=>rfl
      | false=>cases df<;>rfl
theorem ans_e(z:SeD)(g:AgD)(d:BdD)(dn up:List FrD)(of en:List Int)(c:Int)(m:List FrD)(hm:m.length<=1000000):CTX Try.prog 72 [some {es:=[raM z g d (.sl 1 0 dn.length) (.sl 2 0 up.length) (.sl 3 0 of.length) (.sl 4 0 ((en.map (AV.int .i64)).length+[AV.int .i64 c].length))],z:=17,flat:=false},some (fB dn),some (fB up),some (iB of),some {es:=en.map (AV.int .i64)++[AV.int .i64 c],z:=1}] [.ptr 0 0 0,.lst (m.map frA)]
  [some (rB z g d dn (Ax up m) of (en++[c])),some (fB dn),some (fB (Ax up m)),some (iB of),some (iB (en++[c]))] (.tup []):=by
 have h:=EK z g d dn up of (en++[c]) m hm
 have e1:(en++[c]).length=(en.map (AV.int .i64)).length+[AV.int .i64 c].length:=by simp
 have e2:iB (en++[c])={es:=en.map (AV.int .i64)++[AV.int .i64 c],z:=1}:=by rw[iB,Ro];rfl
 have e3:rB z g d dn up of (en++[c])={es:=[raM z g d (.sl 1 0 dn.length) (.sl 2 0 up.length) (.sl 3 0 of.length) (.sl 4 0 ((en.map (AV.int .i64)).length+[AV.int .i64 c].length))],z:=17,flat:=false}:=by rw[rB,e1]
 rw[e3] at h
 have h':=h
 rw[show [some ({es:=[raM z g d (.sl 1 0 dn.length) (.sl 2 0 up.length) (.sl 3 0 of.length) (.sl 4 0 ((en.map (AV.int .i64)).length+[AV.int .i64 c].length))],z:=17,flat:=false}:Blk),some (fB dn),some (fB up),some (iB of),some (iB (en++[c]))]=[some {es:=[raM z g d (.sl 1 0 dn.length) (.sl 2 0 up.length) (.sl 3 0 of.length) (.sl 4 0 ((en.map (AV.int .i64)).length+[AV.int .i64 c].length))],z:=17,flat:=false},some (fB dn),some (fB up),some (iB of),some {es:=en.map (AV.int .i64)++[AV.int .i64 c],z:=1}] by rw[e2]] at h'
 exact h'
def rstSt(n:Aa)(z:SeD)(g:AgD)(d:BdD)(dn up:List FrD)(of en:List Int)(y:EvD):Empty->St
 | x=>x.elim
def rstHd:Empty->Nat
 | x=>x.elim
def JL(n:Aa)(z:SeD)(g:AgD)(d:BdD)(dn up:List FrD)(of en:List Int)(y:EvD):Option (Empty⊕Ret):=
 br (y.k==3)
 (some (.inr ([some (Blk.mk [rV (AI z g d dn up y).z (AI z g d dn up y).g d [AV.sl 1 0 (AI z g d dn up y).dn.length,AV.sl 2 0 (AI z g d dn up y).up.length,AV.sl 3 0 of.length,AV.sl 4 0 en.length]] 17 false true none),some (bK (List.map frA (AI z g d dn up y).dn) 5),some (bK (List.map frA (AI z g d dn up y).up) 5),some (bK (List.map iV of) 1),some (bK (List.map iV en) 1)],bV (AI z g d dn up y).o)))
 (br (y.k==5)
  (some (.inr ([some (Blk.mk [rV (AI z g d dn up y).z (AI z g d dn up y).g d [AV.sl 1 0 (AI z g d dn up y).dn.length,AV.sl 2 0 (AI z g d dn up y).up.length,AV.sl 3 0 of.length,AV.sl 4 0 en.length]] 17 false true none),some (bK (List.map frA (AI z g d dn up y).dn) 5),some (bK (List.map frA (AI z g d dn up y).up) 5),some (bK (List.map iV of) 1),some (bK (List.map iV en) 1)],bV (AI z g d dn up y).o)))
  (br (y.k==7)
   (some (.inr ([some (Blk.mk [rV (AI z g d dn up y).z (AI z g d dn up y).g d [AV.sl 1 0 (AI z g d dn up y).dn.length,AV.sl 2 0 (AI z g d dn up y).up.length,AV.sl 3 0 of.length,AV.sl 4 0 en.length]] 17 false true none),some (bK (List.map frA (AI z g d dn up y).dn) 5),some (bK (List.map frA (AI z g d dn up y).up) 5),some (bK (List.map iV of) 1),some (bK (List.map iV en) 1)],bV (AI z g d dn up y).o)))
   (br (y.k==2)
    (some (.inr ([some (Blk.mk [rV (AD z g d dn up y).z (AD z g d dn up y).g d [AV.sl 1 0 (AD z g d dn up y).dn.length,AV.sl 2 0 (AD z g d dn up y).up.length,AV.sl 3 0 of.length,AV.sl 4 0 en.length]] 17 false true none),some (bK (List.map frA (AD z g d dn up y).dn) 5),some (bK (List.map frA (AD z g d dn up y).up) 5),some (bK (List.map iV of) 1),some (bK (List.map iV en) 1)],bV (AD z g d dn up y).o)))
    (br (y.k==4)
     (some (.inr ([some (Blk.mk [rV (AD z g d dn up y).z (AD z g d dn up y).g d [AV.sl 1 0 (AD z g d dn up y).dn.length,AV.sl 2 0 (AD z g d dn up y).up.length,AV.sl 3 0 of.length,AV.sl 4 0 en.length]] 17 false true none),some (bK (List.map frA (AD z g d dn up y).dn) 5),some (bK (List.map frA (AD z g d dn up y).up) 5),some (bK (List.map iV of) 1),some (bK (List.map iV en) 1)],bV (AD z g d dn up y).o)))
     (br (y.k==6)
      (some (.inr ([some (Blk.mk [rV (AD z g d dn up y).z (AD z g d dn up y).g d [AV.sl 1 0 (AD z g d dn up y).dn.length,AV.sl 2 0 (AD z g d dn up y).up.length,AV.sl 3 0 of.length,AV.sl 4 0 en.length]] 17 false true none),some (bK (List.map frA (AD z g d dn up y).dn) 5),some (bK (List.map frA (AD z g d dn up y).up) 5),some (bK (List.map iV of) 1),some (bK (List.map iV en) 1)],bV (AD z g d dn up y).o)))
      (br (y.k==8)
       (br ((AW z 0).o)
        (gu (∀(blk:Blk),blk∈[fB (AE dn (AW z 0).x)]->AZ blk) <|
         gu ((Bp g 0 d).length<=1000000) <|
         some (.inr ([some (Blk.mk [rV z g d [AV.sl 1 0 (AE dn (AW z 0).x).length,AV.sl 2 0 (Ax up (Bp g 0 d)).length,AV.sl 3 0 of.length,AV.sl 4 0 en.length]] 17 false true none),some (bK (List.map frA (AE dn (AW z 0).x)) 5),some (bK (List.map frA (Ax up (Bp g 0 d))) 5),some (bK (List.map iV of) 1),some (bK (List.map iV en) 1)],bV true)))
        (gu ((Bp g 0 d).length<=1000000) <|
         some (.inr ([some (Blk.mk [rV z g d [AV.sl 1 0 dn.length,AV.sl 2 0 (Ax up (Bp g 0 d)).length,AV.sl 3 0 of.length,AV.sl 4 0 en.length]] 17 false true none),some (bK (List.map frA dn) 5),some (bK (List.map frA (Ax up (Bp g 0 d))) 5),some (bK (List.map iV of) 1),some (bK (List.map iV en) 1)],bV true))))
       (br (y.k==9)
        (gu (Rows n.nx) <|
         br ((Af n g 0 d).a.l==g.l&&((Af n g 0 d).a.t==g.t&&((Af n g 0 d).a.s==g.s&&((Af n g 0 d).a.r==g.r&&((Af n g 0 d).a.c==g.c&&true)))))
         (br ((Af n g 0 d).b.c==d.c&&((Af n g 0 d).b.t==d.t&&((Af n g 0 d).b.s==d.s&&((Af n g 0 d).b.f==d.f&&true))))
          (some (.inr ([some (Blk.mk [rV z g d [AV.sl 1 0 dn.length,AV.sl 2 0 up.length,AV.sl 3 0 of.length,AV.sl 4 0 en.length]] 17 false true none),some (bK (List.map frA dn) 5),some (bK (List.map frA up) 5),some (bK (List.map iV of) 1),some (bK (List.map iV en) 1)],bV false)))
          (br ((Af n g 0 d).b.t == -1)
           (gu ((List.map iV en).length+[iV (Af n g 0 d).b.c].length<=9223372036854775807) <|
            gu (((List.map iV en).length+[iV (Af n g 0 d).b.c].length) * 8<=140737488355328) <|
            gu ((Af n g 0 d).l.length<=1000000) <|
            some (.inr ([some (Blk.mk [rV z (Af n g 0 d).a (Af n g 0 d).b [AV.sl 1 0 dn.length,AV.sl 2 0 (Ax up (Af n g 0 d).l).length,AV.sl 3 0 of.length,AV.sl 4 0 (en++[(Af n g 0 d).b.c]).length]] 17 false true none),some (bK (List.map frA dn) 5),some (bK (List.map frA (Ax up (Af n g 0 d).l)) 5),some (bK (List.map iV of) 1),some (bK (List.map iV (en++[(Af n g 0 d).b.c])) 1)],bV true)))
           (gu ((Af n g 0 d).l.length<=1000000) <|
            some (.inr ([some (Blk.mk [rV z (Af n g 0 d).a (Af n g 0 d).b [AV.sl 1 0 dn.length,AV.sl 2 0 (Ax up (Af n g 0 d).l).length,AV.sl 3 0 of.length,AV.sl 4 0 en.length]] 17 false true none),some (bK (List.map frA dn) 5),some (bK (List.map frA (Ax up (Af n g 0 d).l)) 5),some (bK (List.map iV of) 1),some (bK (List.map iV en) 1)],bV true)))))
         (br ((Af n g 0 d).b.t == -1)
          (gu ((List.map iV en).length+[iV (Af n g 0 d).b.c].length<=9223372036854775807) <|
           gu (((List.map iV en).length+[iV (Af n g 0 d).b.c].length) * 8<=140737488355328) <|
           gu ((Af n g 0 d).l.length<=1000000) <|
           some (.inr ([some (Blk.mk [rV z (Af n g 0 d).a (Af n g 0 d).b [AV.sl 1 0 dn.length,AV.sl 2 0 (Ax up (Af n g 0 d).l).length,AV.sl 3 0 of.length,AV.sl 4 0 (en++[(Af n g 0 d).b.c]).length]] 17 false true none),some (bK (List.map frA dn) 5),some (bK (List.map frA (Ax up (Af n g 0 d).l)) 5),some (bK (List.map iV of) 1),some (bK (List.map iV (en++[(Af n g 0 d).b.c])) 1)],bV true)))
          (gu ((Af n g 0 d).l.length<=1000000) <|
           some (.inr ([some (Blk.mk [rV z (Af n g 0 d).a (Af n g 0 d).b [AV.sl 1 0 dn.length,AV.sl 2 0 (Ax up (Af n g 0 d).l).length,AV.sl 3 0 of.length,AV.sl 4 0 en.length]] 17 false true none),some (bK (List.map frA dn) 5),some (bK (List.map frA (Ax up (Af n g 0 d).l)) 5),some (bK (List.map iV of) 1),some (bK (List.map iV en) 1)],bV true)))))
        (br (y.k==10)
         (br ((Aw g 0 d).b.c==d.c&&((Aw g 0 d).b.t==d.t&&((Aw g 0 d).b.s==d.s&&((Aw g 0 d).b.f==d.f&&true))))
          (some (.inr ([some (Blk.mk [rV z g d [AV.sl 1 0 dn.length,AV.sl 2 0 up.length,AV.sl 3 0 of.length,AV.sl 4 0 en.length]] 17 false true none),some (bK (List.map frA dn) 5),some (bK (List.map frA up) 5),some (bK (List.map iV of) 1),some (bK (List.map iV en) 1)],bV false)))
          (gu ((Aw g 0 d).l.length<=1000000) <|
           some (.inr ([some (Blk.mk [rV z (Aw g 0 d).a (Aw g 0 d).b [AV.sl 1 0 dn.length,AV.sl 2 0 (Ax up (Aw g 0 d).l).length,AV.sl 3 0 of.length,AV.sl 4 0 en.length]] 17 false true none),some (bK (List.map frA dn) 5),some (bK (List.map frA (Ax up (Aw g 0 d).l)) 5),some (bK (List.map iV of) 1),some (bK (List.map iV en) 1)],bV true))))
         (br (y.k==11)
          (some (.inr ([some (Blk.mk [AV.agg [uV z.q,bV z.o,iV z.c,iV z.f,uV g.l,iV g.t,bV g.s,iV g.r,iV g.c,iV d.c,iV d.t,bV d.s,bV true,AV.sl 1 0 dn.length,AV.sl 2 0 up.length,AV.sl 3 0 of.length,AV.sl 4 0 en.length]] 17 false true none),some (bK (List.map frA dn) 5),some (bK (List.map frA up) 5),some (bK (List.map iV of) 1),some (bK (List.map iV en) 1)],bV !d.f)))
          (some (.inr ([some (Blk.mk [rV z g d [AV.sl 1 0 dn.length,AV.sl 2 0 up.length,AV.sl 3 0 of.length,AV.sl 4 0 en.length]] 17 false true none),some (bK (List.map frA dn) 5),some (bK (List.map frA up) 5),some (bK (List.map iV of) 1),some (bK (List.map iV en) 1)],bV false))))))))))))
def rstStep(n:Aa)(z:SeD)(g:AgD)(d:BdD)(dn up:List FrD)(of en:List Int)(y:EvD):Empty->Option (Empty⊕Ret)
 | x=>x.elim
theorem rstEn_ok(n:Aa)(z:SeD)(g:AgD)(d:BdD)(dn up:List FrD)(of en:List Int)(y:EvD)(o:Empty⊕Ret)(h:JL n z g d dn up of en y=some o):Arr Try.prog Try.f55 1 (rstSt n z g d dn up of en y) rstHd (zB Try.f55) [] {n:=Try.f55.ntmps,fr:=An 0 ([Ad n,.ptr 0 0 0,evA y]),hp:=([some {es:=[raM z g d (.sl 1 0 dn.length) (.sl 2 0 up.length) (.sl 3 0 of.length) (.sl 4 0 en.length)],z:=17,flat:=false},some {es:=dn.map frA,z:=5},some {es:=up.map frA,z:=5},some {es:=of.map (AV.int .i64),z:=1},some {es:=en.map (AV.int .i64),z:=1}])} o:=
 Scr.ok h mix (
 .rn 3 [] [] [] [] (aj (u2 (u2 t2)) (aj (u2 (u2 (u2 s2))) (aj (u2 s2) (al (u2 s2))))) <|
 .br (fun a0=>
 have c0:=Lj z g d (dn) (up) (of) (en) (y);
 .rt [45] [] [(44,hKO c0 [0,1,2,3,4] [])] [] [0,7,8,9,10] [] (aj (aj a0 (ak (aj (u2 (u2 (u2 s2))) (al (u2 (u2 (u2 (aj (k5 (aj t5 (aj (al (ak (k3 (k5 t9)))) (ak (k3 (c0)))))) s2)))))))) (ak (aj (al (ak (k3 (k5 t9)))) t5))))
 (fun a0=>
 .rn 0 [44] [] [] [] (aj a0 (al (u2 s2))) <|
 .br (fun a1=>
  have c0:=Lj z g d (dn) (up) (of) (en) (y);
  .rt [45] [] [(44,hKO c0 [0,1,2,3,4] [])] [] [0,7,8,9,10] [] (aj (aj a1 (ak (aj (u2 (u2 (u2 s2))) (al (u2 (u2 (u2 (aj (k5 (aj t5 (aj (al (ak (k3 (k5 t9)))) (ak (k3 (c0)))))) s2)))))))) (ak (aj (al (ak (k3 (k5 t9)))) t5))))
 (fun a1=>
  .rn 0 [44] [] [] [] (aj a1 (al (u2 s2))) <|
  .br (fun a2=>
  have c0:=Lj z g d (dn) (up) (of) (en) (y);
  .rt [45] [] [(44,hKO c0 [0,1,2,3,4] [])] [] [0,7,8,9,10] [] (aj (aj a2 (aj (u2 (u2 (u2 s2))) (al (u2 (u2 (u2 (aj (k5 (aj t5 (aj (al (ak (k3 (k5 t9)))) (ak (k3 (c0)))))) s2))))))) (ak (aj (al (ak (k3 (k5 t9)))) t5))))
  (fun a2=>
  .rn 0 [44] [] [] [] (aj a2 (al (u2 s2))) <|
  .br (fun a3=>
   have c0:=K1 z g d (dn) (up) (of) (en) (y);
   .rt [53] [] [(44,hKO c0 [0,1,2,3,4] [])] [] [0,7,8,9,10] [] (aj (aj a3 (ak (al (u2 (u2 (u2 (aj (k5 (aj t5 (aj (al (ak (k3 (k5 t9)))) (ak (k3 (c0)))))) s2))))))) (ak (aj (al (ak (k3 (k5 t9)))) t5))))
  (fun a3=>
   .rn 0 [52] [] [] [] (aj a3 (al (u2 s2))) <|
   .br (fun a4=>
   have c0:=K1 z g d (dn) (up) (of) (en) (y);
   .rt [53] [] [(44,hKO c0 [0,1,2,3,4] [])] [] [0,7,8,9,10] [] (aj (aj a4 (ak (al (u2 (u2 (u2 (aj (k5 (aj t5 (aj (al (ak (k3 (k5 t9)))) (ak (k3 (c0)))))) s2))))))) (ak (aj (al (ak (k3 (k5 t9)))) t5))))
   (fun a4=>
   .rn 0 [52] [] [] [] (aj a4 (al (u2 s2))) <|
   .br (fun a5=>
    have c0:=K1 z g d (dn) (up) (of) (en) (y);
    .rt [53] [] [(44,hKO c0 [0,1,2,3,4] [])] [] [0,7,8,9,10] [] (aj (aj a5 (al (u2 (u2 (u2 (aj (k5 (aj t5 (aj (al (ak (k3 (k5 t9)))) (ak (k3 (c0)))))) s2)))))) (ak (aj (al (ak (k3 (k5 t9)))) t5))))
   (fun a5=>
    .rn 0 [52] [] [] [] (aj a5 (al (u2 s2))) <|
    .br (fun a6=>
    have c0:=K9 z (0);
    .rn 1 [61] [] [(50,hK c0 [] [])] [] (aj a6 (aj (u2 (u2 (u2 (u2 (aj (ak (aj t5 (ak (al (c0))))) (u2 (u2 (u2 (ak (aj (k2 n11) s2)))))))))) (al s2))) <|
    .br (fun a7=>
     .gu fun a8=>
     have c1:=Gw (dn) ((AW z 0).x);
     .rn 0 [107] [] [(60,hK c1 [] [1])] [] (aj a7 (al (u2 (u2 (u2 (u2 (u2 (u2 (aj (k2 (aj (show dn.length=(List.map frA dn).length by simp) (aj t6 (aj (c1) a8)))) (u2 (u2 (al t3)))))))))))) <|
     .gu fun a9=>
     have c2:=aga_c g (0) (d);
     have c3:=EK z g d (AE dn (AW z 0).x) (up) (of) (en) (Bp g 0 d) a9;
     .rt [] [] [(72,hK c2 [] []),(73,hKO c3 [0,8,2,3,4] [])] [] [0,9,10,11,12] [] (aj (aj (u2 (u2 (u2 (u2 (u2 (u2 (u2 (u2 (u2 (aj (k2 (aj t6 (ak (aj t5 (al (c2)))))) (al (ak (k3 (aj (al (ak (k3 (k5 t9)))) (ak (k3 (c3))))))))))))))))) s2) (ak (aj (al (ak (k3 (k5 t9)))) t5))))
    (fun a7=>
     .gu fun a8=>
     have c1:=aga_c g (0) (d);
     have c2:=EK z g d (dn) (up) (of) (en) (Bp g 0 d) a8;
     .rt [106] [] [(72,hK c1 [] []),(73,hKO c2 [0,1,2,3,4] [])] [] [0,8,9,10,11] [] (aj (aj a7 (aj (u2 (u2 (u2 (u2 (u2 (u2 (u2 (u2 (u2 (aj (k2 (aj t6 (ak (aj t5 (al (c1)))))) (al (ak (k3 (aj (al (ak (k3 (k5 t9)))) (ak (k3 (c2))))))))))))))))) s2)) (ak (aj (al (ak (k3 (k5 t9)))) t5)))))
    (fun a6=>
    .rn 0 [60] [] [] [] (aj a6 (al (u2 s2))) <|
    .br (fun a7=>
     .gu fun a8=>
     have c0:=dri_c n g (0) d a8;
     .rn 0 [65] [] [(84,hK c0 [] [])] [] (aj a7 (al (u2 (u2 (u2 (u2 (u2 (u2 (u2 (u2 (u2 (aj (k3 (aj t9 (aj t6 (ak (aj t5 (al (c0))))))) (u2 (u2 (u2 (u2 (k2 (aj (k2 n11) (aj (k2 n11) s2))))))))))))))))))) <|
     .br (fun a9=>
     .rn 0 [189] [] [] [] (al (u2 (u2 (u2 (u2 (u2 (aj t3 (u2 (ag a9 (ag a9 (ag a9 (ag a9 (ag a9 (aj (aj a9 t3) (al (aj a9 t2)))))))))))))))) <|
     .br (fun a10=>
      .rt [189,203] [] [] [] [0,1,2,3,4] [] (aj (aj a10 s2) (ak (aj (al (ak (k3 (k5 t9)))) t5))))
     (fun a10=>
      .rn 0 [189,202] [] [] [] (aj a10 (al (u2 (u2 s2)))) <|
      .br (fun a11=>
      .gu fun a12=>
      .gu fun a13=>
      .rn 1 [189,209] [] [] [] (aj a11 (aj (u2 (u2 (u2 (u2 (u2 (u2 (u2 (u2 (aj (k2 (aj (show(List.map (iv) en).length=en.length by simp) (aj (aj (show nat_lit 1=nat_lit 1 from rfl) (show 1<=[iv (Af n g 0 d).b.c].length by simp)) (aj a12 a13)))) (u2 (u2 (al t3)))))))))))) (al (u2 (u2 (u2 (u2 (u2 (u2 (aj t3 (u2 (u2 (al t3))))))))))))) <|
      .gu fun a14=>
      have c1:=ans_e z ((Af n g 0 d).a) ((Af n g 0 d).b) (dn) (up) (of) (en) ((Af n g 0 d).b.c) ((Af n g 0 d).l) a14;
      .rt [189] [] [(126,hKO c1 [0,1,2,3,10] [])] [] [0,11,12,13,14] [] (aj (aj (u2 (u2 (al (ak (k3 (aj (al (ak (k3 (k5 t9)))) (ak (k3 (c1))))))))) s2) (ak (aj (al (ak (k3 (k5 t9)))) t5))))
      (fun a11=>
      .rn 0 [189,208] [] [] [] (aj a11 (al (u2 (u2 (u2 (u2 (u2 (u2 (aj t3 (u2 (u2 (al t3)))))))))))) <|
      .gu fun a12=>
      have c1:=EK z ((Af n g 0 d).a) ((Af n g 0 d).b) (dn) (up) (of) (en) ((Af n g 0 d).l) a12;
      .rt [189] [] [(126,hKO c1 [0,1,2,3,4] [])] [] [0,9,10,11,12] [] (aj (aj (u2 (u2 (al (ak (k3 (aj (al (ak (k3 (k5 t9)))) (ak (k3 (c1))))))))) s2) (ak (aj (al (ak (k3 (k5 t9)))) t5))))))
     (fun a9=>
     .rn 1 [188] [] [] [] (aj (u2 (u2 (u2 (u2 (u2 (aj t3 (u2 (aj a9 (aj a9 (aj a9 (aj a9 (aj a9 (aj a9 (al (aj a9 t2))))))))))))))) (ak (al (u2 (u2 s2))))) <|
     .br (fun a10=>
      .gu fun a11=>
      .gu fun a12=>
      .rn 1 [188,209] [] [] [] (aj a10 (aj (u2 (u2 (u2 (u2 (u2 (u2 (u2 (u2 (aj (k2 (aj (show(List.map (iv) en).length=en.length by simp) (aj (aj (show nat_lit 1=nat_lit 1 from rfl) (show 1<=[iv (Af n g 0 d).b.c].length by simp)) (aj a11 a12)))) (u2 (u2 (al t3)))))))))))) (al (u2 (u2 (u2 (u2 (u2 (u2 (aj t3 (u2 (u2 (al t3))))))))))))) <|
      .gu fun a13=>
      have c1:=ans_e z ((Af n g 0 d).a) ((Af n g 0 d).b) (dn) (up) (of) (en) ((Af n g 0 d).b.c) ((Af n g 0 d).l) a13;
      .rt [188] [] [(126,hKO c1 [0,1,2,3,10] [])] [] [0,11,12,13,14] [] (aj (aj (u2 (u2 (al (ak (k3 (aj (al (ak (k3 (k5 t9)))) (ak (k3 (c1))))))))) s2) (ak (aj (al (ak (k3 (k5 t9)))) t5))))
     (fun a10=>
      .rn 0 [188,208] [] [] [] (aj a10 (al (u2 (u2 (u2 (u2 (u2 (u2 (aj t3 (u2 (u2 (al t3)))))))))))) <|
      .gu fun a11=>
      have c1:=EK z ((Af n g 0 d).a) ((Af n g 0 d).b) (dn) (up) (of) (en) ((Af n g 0 d).l) a11;
      .rt [188] [] [(126,hKO c1 [0,1,2,3,4] [])] [] [0,9,10,11,12] [] (aj (aj (u2 (u2 (al (ak (k3 (aj (al (ak (k3 (k5 t9)))) (ak (k3 (c1))))))))) s2) (ak (aj (al (ak (k3 (k5 t9)))) t5))))))
    (fun a7=>
     .rn 0 [64] [] [] [] (aj a7 (al (u2 s2))) <|
     .br (fun a8=>
     have c0:=fin_c g (0) (d);
     .rn 1 [69] [] [(136,hK c0 [] [])] [] (aj a8 (aj (u2 (u2 (u2 (u2 (u2 (u2 (u2 (u2 (aj (k2 (aj t6 (ak (aj t5 (al (c0)))))) (u2 (u2 (u2 (u2 (k2 (aj (k2 n11) (aj (k2 n11) s2)))))))))))))))) (al (u2 (u2 (u2 (u2 (u2 (al t3))))))))) <|
     .br (fun a9=>
      .rt [291] [] [] [] [0,1,2,3,4] [] (aj (aj a9 s2) (ak (aj (al (ak (k3 (k5 t9)))) t5))))
     (fun a9=>
      .rn 0 [290] [] [] [] (aj a9 (al (u2 (u2 (u2 (u2 (u2 (u2 (aj t3 (u2 (u2 (al t3)))))))))))) <|
      .gu fun a10=>
      have c1:=EK z ((Aw g 0 d).a) ((Aw g 0 d).b) (dn) (up) (of) (en) ((Aw g 0 d).l) a10;
      .rt [] [] [(156,hKO c1 [0,1,2,3,4] [])] [] [0,9,10,11,12] [] (aj (aj (u2 (u2 (al (ak (k3 (aj (al (ak (k3 (k5 t9)))) (ak (k3 (c1))))))))) s2) (ak (aj (al (ak (k3 (k5 t9)))) t5)))))
     (fun a8=>
     .rn 0 [68] [] [] [] (aj a8 (al (u2 s2))) <|
     .br (fun a9=>
      .rt [73] [] [] [] [0,1,2,3,4] [] (aj (aj a9 (aj (u2 (u2 (u2 (u2 (u2 s2))))) (aj (u2 (u2 (u2 (u2 s2)))) (al (u2 (u2 s2)))))) (ak (aj (al (ak (k3 (k5 t9)))) t5))))
     (fun a9=>
      .rt [72] [] [] [] [0,1,2,3,4] [] (aj (aj a9 s2) (ak (aj (al (ak (k3 (k5 t9)))) t5)))))))))))))) (by kernel_rfl)
theorem rst_ct(n:Aa)(z:SeD)(g:AgD)(d:BdD)(dn up:List FrD)(of en:List Int)(y:EvD)(r:Ret)(h:Aj (rstStep n z g d dn up of en y) (JL n z g d dn up of en y) r)(hi:BT 3 r.2=true/\∀blk,some blk∈r.1->AZ blk):CTX Try.prog 55 ([some {es:=[raM z g d (.sl 1 0 dn.length) (.sl 2 0 up.length) (.sl 3 0 of.length) (.sl 4 0 en.length)],z:=17,flat:=false},some {es:=dn.map frA,z:=5},some {es:=up.map frA,z:=5},some {es:=of.map (AV.int .i64),z:=1},some {es:=en.map (AV.int .i64),z:=1}]) ([Ad n,.ptr 0 0 0,evA y]) r.1 r.2:=
 CTX.mach (fn:=Try.f55) (c:=zB Try.f55) (S:=rstSt n z g d dn up of en y) (hd:=rstHd) Try.func55 (by kernel_rfl) (nL rfl) (nL rfl)
  (fun s o ho=>match s,ho with
   | x,_=>x.elim)
  (fun o ho=>rstEn_ok n z g d dn up of en y o ho) h hi
theorem Iw(x:AgD)(q:Int)(y:BdD):(Bp x q y).length<=1000000:=by
 unfold Bp
 cases x.r==0<;>cases y.f<;>simp
theorem H8(n:Aa)(x:AgD)(q:Int)(y:BdD):(Af n x q y).l.length<=1000000:=by
 unfold Af
 cases y.c == -1<;>cases y.f<;>cases y.t == -1<;>cases (!y.s&&(!(x.t == -1)&&A8 n y.c x.t))<;>simp
theorem NE(x:AgD)(q:Int)(y:BdD):(Aw x q y).l.length<=1000000:=by
 unfold Aw
 cases y.c == -1<;>cases (y.s&&!y.f)<;>simp
structure SoD where
 x:RaD
 o:Bool
def agB(x y:AgD):Bool:=x.l==y.l&&(x.t==y.t&&(x.s==y.s&&(x.r==y.r&&(x.c==y.c&&true))))
def bdB(x y:BdD):Bool:=x.c==y.c&&(x.t==y.t&&(x.s==y.s&&(x.f==y.f&&true)))
def stO(n:Aa)(x:RaD)(y:EvD):SoD:=
 bif y.k==3||(y.k==5||y.k==7) then ⟨⟨(AI x.s x.a x.b x.dn x.up y).z,(AI x.s x.a x.b x.dn x.up y).g,x.b,(AI x.s x.a x.b x.dn x.up y).dn,(AI x.s x.a x.b x.dn x.up y).up,x.of,x.en⟩,(AI x.s x.a x.b x.dn x.up y).o⟩
 else bif y.k==2||(y.k==4||y.k==6) then ⟨⟨(AD x.s x.a x.b x.dn x.up y).z,(AD x.s x.a x.b x.dn x.up y).g,x.b,(AD x.s x.a x.b x.dn x.up y).dn,(AD x.s x.a x.b x.dn x.up y).up,x.of,x.en⟩,(AD x.s x.a x.b x.dn x.up y).o⟩
 else bif y.k==8 then ⟨⟨x.s,x.a,x.b,bif (AW x.s 0).o then AE x.dn (AW x.s 0).x else x.dn,Ax x.up (Bp x.a 0 x.b),x.of,x.en⟩,true⟩
 else bif y.k==9 then (bif agB (Af n x.a 0 x.b).a x.a&&bdB (Af n x.a 0 x.b).b x.b then ⟨x,false⟩ else
  ⟨⟨x.s,(Af n x.a 0 x.b).a,(Af n x.a 0 x.b).b,x.dn,Ax x.up (Af n x.a 0 x.b).l,x.of,bif (Af n x.a 0 x.b).b.t == -1 then x.en++[(Af n x.a 0 x.b).b.c] else x.en⟩,true⟩)
 else bif y.k==10 then (bif bdB (Aw x.a 0 x.b).b x.b then ⟨x,false⟩ else ⟨⟨x.s,(Aw x.a 0 x.b).a,(Aw x.a 0 x.b).b,x.dn,Ax x.up (Aw x.a 0 x.b).l,x.of,x.en⟩,true⟩)
 else bif y.k==11 then ⟨⟨x.s,x.a,⟨x.b.c,x.b.t,x.b.s,true⟩,x.dn,x.up,x.of,x.en⟩,!x.b.f⟩ else ⟨x,false⟩
@[irreducible] def stJ(n:Aa)(x:RaD)(y:EvD):SoD:=stO n x y
theorem Np:stJ=stO:=by funext n x y;unfold stJ;rfl
def rX(x:RaD):Blk:=rB x.s x.a x.b x.dn x.up x.of x.en
theorem rst_o(n:Aa)(z:SeD)(g:AgD)(d:BdD)(dn up:List FrD)(of en:List Int)(y:EvD)(hrw:Rows n.nx)(hen:en.length<=1000000)(x:SoD)(hx:stO n ⟨z,g,d,dn,up,of,en⟩ y=x):CTX Try.prog 55 [some (rB z g d dn up of en),some (fB dn),some (fB up),some (iB of),some (iB en)] [Ad n,.ptr 0 0 0,evA y]
  [some (rX x.x),some (fB x.x.dn),some (fB x.x.up),some (iB x.x.of),some (iB x.x.en)] (.bool x.o):=by
 refine rst_ct n z g d dn up of en y ([_,_,_,_,_],_) (.val ?_) ⟨rfl,GL⟩
 subst hx
 obtain⟨dc,dt,ds,df⟩:=d
 have he1:(en.map (AV.int .i64)).length+[AV.int .i64 (Af n g 0 ⟨dc,dt,ds,df⟩).b.c].length<=9223372036854775807:=by simp only[Re,RP];omega
 have he2:((en.map (AV.int .i64)).length+[AV.int .i64 (Af n g 0 ⟨dc,dt,ds,df⟩).b.c].length) * 8<=140737488355328:=by simp only[Re,RP];omega
 unfold JL stO
 cases y.k==3 with
 | true=>rfl
 | false=>cases y.k==5 with
  | true=>rfl
  | false=>cases y.k==7 with
   | true=>rfl
   | false=>cases y.k==2 with
    | true=>rfl
    | false=>cases y.k==4 with
     | true=>rfl
     | false=>cases y.k==6 with
      | true=>rfl
      | false=>cases y.k==8 with
       | true=>
        cases (AW z 0).o with
        | true=>exact(Ac (CS _)).trans (Ac (Iw _ _ _))
        | false=>exact Ac (Iw _ _ _)
       | false=>cases y.k==9 with
        | true=>
         refine(Ac hrw).trans ?_
         cases hA:agB (Af n g 0 ⟨dc,dt,ds,df⟩).a g with
         | false=>
          refine(Ao hA).trans ?_
          cases (Af n g 0 ⟨dc,dt,ds,df⟩).b.t == -1 with
          | true=>exact(Ac he1).trans ((Ac he2).trans (Ac (H8 _ _ _ _)))
          | false=>exact Ac (H8 _ _ _ _)
         | true=>
          refine(Au hA).trans ?_
          cases hB:bdB (Af n g 0 ⟨dc,dt,ds,df⟩).b ⟨dc,dt,ds,df⟩ with
          | true=>exact Au hB
          | false=>
           refine(Ao hB).trans ?_
           cases (Af n g 0 ⟨dc,dt,ds,df⟩).b.t == -1 with
           | true=>exact(Ac he1).trans ((Ac he2).trans (Ac (H8 _ _ _ _)))
           | false=>exact Ac (H8 _ _ _ _)
        | false=>cases y.k==10 with
         | true=>
          cases hB:bdB (Aw g 0 ⟨dc,dt,ds,df⟩).b ⟨dc,dt,ds,df⟩ with
          | true=>exact Au hB
          | false=>exact(Ao hB).trans (Ac (NE _ _ _))
         | false=>cases y.k==11<;>rfl
theorem rst_c(n:Aa)(z:SeD)(g:AgD)(d:BdD)(dn up:List FrD)(of en:List Int)(y:EvD)(hrw:Rows n.nx)(hen:en.length<=1000000):CTX Try.prog 55 [some (rB z g d dn up of en),some (fB dn),some (fB up),some (iB of),some (iB en)] [Ad n,.ptr 0 0 0,evA y]
  [some (rX (stJ n ⟨z,g,d,dn,up,of,en⟩ y).x),some (fB (stJ n ⟨z,g,d,dn,up,of,en⟩ y).x.dn),some (fB (stJ n ⟨z,g,d,dn,up,of,en⟩ y).x.up),some (iB (stJ n ⟨z,g,d,dn,up,of,en⟩ y).x.of),some (iB (stJ n ⟨z,g,d,dn,up,of,en⟩ y).x.en)] (.bool (stJ n ⟨z,g,d,dn,up,of,en⟩ y).o):=by
 rw[Np]
 exact rst_o n z g d dn up of en y hrw hen _ rfl
def stpSt(n:Aa)(x:RaD)(y:EvD):Empty->St
 | x=>x.elim
def stpHd:Empty->Nat
 | x=>x.elim
def Lh(n:Aa)(x:RaD)(y:EvD):Option (Empty⊕Ret):=
 gu (RaS x) <|
 br (y.a != 0)
 (some (.inr ([],AV.tup [rV x.s x.a x.b [AV.lst (List.map frA x.dn),AV.lst (List.map frA x.up),AV.lst (List.map iV x.of),AV.lst (List.map iV x.en)],bV false])))
 (gu (Rows n.nx) <|
  gu (x.en.length<=1000000) <|
  br (!(stJ n x y).o)
  (some (.inr ([],AV.tup [rV x.s x.a x.b [AV.lst (List.map frA x.dn),AV.lst (List.map frA x.up),AV.lst (List.map iV x.of),AV.lst (List.map iV x.en)],bV false])))
  (some (.inr ([],AV.tup [rV (stJ n x y).x.s (stJ n x y).x.a (stJ n x y).x.b [AV.lst (List.map frA (stJ n x y).x.dn),AV.lst (List.map frA (stJ n x y).x.up),AV.lst (List.map iV (stJ n x y).x.of),AV.lst (List.map iV (stJ n x y).x.en)],bV true]))))
def stpStep(n:Aa)(x:RaD)(y:EvD):Empty->Option (Empty⊕Ret)
 | x=>x.elim
theorem stpEn_ok(n:Aa)(x:RaD)(y:EvD)(o:Empty⊕Ret)(h:Lh n x y=some o):Arr Try.prog Try.f33 0 (stpSt n x y) stpHd (zB Try.f33) [] {n:=Try.f33.ntmps,fr:=An 0 ([Ad n,raA x,evA y]),hp:=([])} o:=
 Scr.ok h mix (
 .rn 0 [] [] [] [] (al (u2 (u2 (u2 t3)))) <|
 .gu fun a0=>
 have c0:=rcl_e (x.s) (x.a) (x.b) (x.dn) (x.up) (x.of) (x.en) a0;
 .rn 1 [] [] [(10,hK c0 [] [])] [] (aj (u2 (aj (ak (aj (ak (k3 (k5 t9))) (al (c0)))) (al (k2 (show Nat.le 1 [AV.agg [uV x.s.q,bV x.s.o,iv x.s.c,iv x.s.f,uV x.a.l,iv x.a.t,bV x.a.s,iv x.a.r,iv x.a.c,iv x.b.c,iv x.b.t,bV x.b.s,bV x.b.f,AV.lst (List.map frA x.dn),AV.lst (List.map frA x.up),AV.lst (List.map (iv) x.of),AV.lst (List.map (iv) x.en)]].length from(nL rfl)))))) (al (u2 (u2 s2)))) <|
 .br (fun a1=>
 .rt [27] [] [] [] [] [] (aj (aj a1 (al (u2 (aj (k2 n11) t2)))) (al (aj (ak (k3 (k5 t9))) t2))))
 (fun a1=>
 have c1:=kc5_c (x.s) (x.a) (x.b) (x.dn) (x.up) (x.of) (x.en) a0;
 .rn 0 [26] [] [(16,hK c1 [] [])] [] (aj a1 (al (u2 (aj (ak (aj (ak (k3 (k5 t9))) (al (c1)))) (ak (al (k2 n11))))))) <|
 .gu fun a2=>
 .gu fun a3=>
 have c2:=rst_c n (x.s) (x.a) (x.b) (x.dn) (x.up) (x.of) (x.en) y a2 a3;
 .rn 0 [] [] [(19,hKO c2 [8,4,5,6,7] [])] [] (al (u2 (u2 (aj (k3 (aj t9 (ak (aj t5 (aj (al (ak (k3 (k5 t9)))) (ak (k3 (c2)))))))) s2)))) <|
 .br (fun a4=>
  .rt [41] [] [] [] [] [] (aj (aj a4 (al (u2 (aj (k2 n11) t2)))) (al (aj (ak (k3 (k5 t9))) t2))))
 (fun a4=>
  .rt [40] [] [] [] [] [9,10,11,12] (aj (aj a4 (al (u2 (aj (k2 n11) t2)))) (al (aj (k3 (k5 (k5 (aj (show(stJ n x y).x.dn.length=(List.map frA (stJ n x y).x.dn).length by simp) (aj (show(stJ n x y).x.up.length=(List.map frA (stJ n x y).x.up).length by simp) (aj (show(stJ n x y).x.of.length=(List.map (iv) (stJ n x y).x.of).length by simp) (al (show(stJ n x y).x.en.length=(List.map (iv) (stJ n x y).x.en).length by simp)))))))) t2)))))) (by kernel_rfl)
theorem stp_ct(n:Aa)(x:RaD)(y:EvD)(r:Ret)(h:Aj (stpStep n x y) (Lh n x y) r):CT Try.prog 33 ([]) ([Ad n,raA x,evA y]) r.1 r.2:=
 CT.mach (fn:=Try.f33) (c:=zB Try.f33) (S:=stpSt n x y) (hd:=stpHd) Try.func33 (by kernel_rfl) (nL rfl)
  (fun s o ho=>match s,ho with
   | x,_=>x.elim)
  (fun o ho=>stpEn_ok n x y o ho) h
def soA(y:SoD):AV:=.tup [raA y.x,.bool y.o]
def evO(n:Aa)(x:RaD)(y:EvD):SoD:=bif y.a != 0 then ⟨x,false⟩ else bif (stO n x y).o then ⟨(stO n x y).x,true⟩ else ⟨x,false⟩
theorem stp_c(n:Aa)(x:RaD)(y:EvD)(hrw:Rows n.nx)(hx:RaS x):CT Try.prog 33 [] [Ad n,raA x,evA y] [] (soA (evO n x y)):=by
 refine stp_ct n x y ([],_) (.val ?_)
 unfold Lh evO
 rw[Np,Ac hx,Ac hrw,Ac hx.2.2.2]
 cases y.a != 0 with
 | true=>rfl
 | false=>cases (stO n x y).o<;>rfl
end Go.Proofs.Ytifigemlifbkcaa

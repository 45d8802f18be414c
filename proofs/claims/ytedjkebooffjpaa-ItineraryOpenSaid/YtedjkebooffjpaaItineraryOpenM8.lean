/- Parts of the proof:It14m,Si1,Si2m,Si3. -/
import Derived.Test.YtedjkebooffjpaaProg
import Derived.KernelRfl
import Derived.Test.YtedjkebooffjpaaItineraryOpenM7
noncomputable section
set_option linter.unusedVariables false
set_option linter.unusedSimpArgs false
open Go Go.AX Go.Proofs
set_option maxRecDepth 100000
set_option maxHeartbeats 4000000
set_option linter.unusedVariables false
set_option linter.unusedSimpArgs false
namespace Go.Proofs.Ytedjkebooffjpaa
inductive k24Pc where
 | l0
 | l1
 | l2
 | l3
 | l4
def k24St:k24Pc→St
 | .l0  =>St.mk 75 [(1,AV.ptr 0 0 0),(2,iv 0)] [some (Blk.mk [AV.agg [AV.nils,AV.lst [AV.lst [iv 1],AV.lst [iv 2],AV.lst [iv 3],AV.lst [iv 0]],AV.lst [AV.agg [AV.str (ByteArray.mk #[100]),AV.bool true,iv 2,iv 3,iv 2,iv 4]],AV.nils,iv 1,iv 0,iv 0,iv 1]] 8 true true none)]
 | .l1  =>St.mk 75 [(1,AV.ptr 0 0 0),(2,iv 1)] [some (Blk.mk [AV.agg [AV.sl 1 0 1,AV.lst [AV.lst [iv 1],AV.lst [iv 2],AV.lst [iv 3],AV.lst [iv 0]],AV.lst [AV.agg [AV.str (ByteArray.mk #[100]),AV.bool true,iv 2,iv 3,iv 2,iv 4]],AV.nils,iv 1,iv 0,iv 0,iv 1]] 8 false true none),some (Blk.mk [AV.agg [AV.str ((ByteArray.mk #[97,98,99,101]).extract (Int.toNat 0) (Int.toNat 1)),iv 0,iv 0]] 3 true true none)]
 | .l2  =>St.mk 75 [(1,AV.ptr 0 0 0),(2,iv 2)] [some (Blk.mk [AV.agg [AV.sl 1 0 2,AV.lst [AV.lst [iv 1],AV.lst [iv 2],AV.lst [iv 3],AV.lst [iv 0]],AV.lst [AV.agg [AV.str (ByteArray.mk #[100]),AV.bool true,iv 2,iv 3,iv 2,iv 4]],AV.nils,iv 1,iv 0,iv 0,iv 1]] 8 false true none),some (Blk.mk [AV.agg [AV.str ((ByteArray.mk #[97,98,99,101]).extract (Int.toNat 0) (Int.toNat 1)),iv 0,iv 0],AV.agg [AV.str ((ByteArray.mk #[97,98,99,101]).extract (Int.toNat 1) (Int.toNat 2)),iv 0,iv 0]] 3 true true none)]
 | .l3  =>St.mk 75 [(1,AV.ptr 0 0 0),(2,iv 3)] [some (Blk.mk [AV.agg [AV.sl 1 0 3,AV.lst [AV.lst [iv 1],AV.lst [iv 2],AV.lst [iv 3],AV.lst [iv 0]],AV.lst [AV.agg [AV.str (ByteArray.mk #[100]),AV.bool true,iv 2,iv 3,iv 2,iv 4]],AV.nils,iv 1,iv 0,iv 0,iv 1]] 8 false true none),some (Blk.mk [AV.agg [AV.str ((ByteArray.mk #[97,98,99,101]).extract (Int.toNat 0) (Int.toNat 1)),iv 0,iv 0],AV.agg [AV.str ((ByteArray.mk #[97,98,99,101]).extract (Int.toNat 1) (Int.toNat 2)),iv 0,iv 0],AV.agg [AV.str ((ByteArray.mk #[97,98,99,101]).extract (Int.toNat 2) (Int.toNat 3)),iv 0,iv 0]] 3 true true none)]
 | .l4  =>St.mk 75 [(1,AV.ptr 0 0 0),(2,iv 4)] [some (Blk.mk [AV.agg [AV.lst [AV.agg [AV.str ((ByteArray.mk #[97,98,99,101]).extract (Int.toNat 0) (Int.toNat 1)),iv 0,iv 0],AV.agg [AV.str ((ByteArray.mk #[97,98,99,101]).extract (Int.toNat 1) (Int.toNat 2)),iv 0,iv 0],AV.agg [AV.str ((ByteArray.mk #[97,98,99,101]).extract (Int.toNat 2) (Int.toNat 3)),iv 0,iv 0],AV.agg [AV.str ((ByteArray.mk #[97,98,99,101]).extract (Int.toNat 3) (Int.toNat 4)),iv 0,iv 0]],AV.lst [AV.lst [iv 1],AV.lst [iv 2],AV.lst [iv 3],AV.lst [iv 0]],AV.lst [AV.agg [AV.str (ByteArray.mk #[100]),AV.bool true,iv 2,iv 3,iv 2,iv 4]],AV.nils,iv 1,iv 0,iv 0,iv 1]] 8 true true none)]
def k24Hd:k24Pc→Nat
 | .l0  =>0
 | .l1  =>0
 | .l2  =>0
 | .l3  =>0
 | .l4  =>0
def k24En:Option (k24Pc⊕Ret):=
 some (.inl (.l0))
def k24S0:Option (k24Pc⊕Ret):=
 some (.inl (.l1))
def k24S1:Option (k24Pc⊕Ret):=
 some (.inl (.l2))
def k24S2:Option (k24Pc⊕Ret):=
 some (.inl (.l3))
def k24S3:Option (k24Pc⊕Ret):=
 some (.inl (.l4))
def k24S4:Option (k24Pc⊕Ret):=
 gu ([BlkD.mk ((ByteArray.mk #[(97:UInt8),(98:UInt8),(99:UInt8),(101:UInt8)]).extract (Int.toNat (0:Int)) (Int.toNat (1:Int))) (0:Int) (0:Int),BlkD.mk ((ByteArray.mk #[(97:UInt8),(98:UInt8),(99:UInt8),(101:UInt8)]).extract (Int.toNat (1:Int)) (Int.toNat (2:Int))) (0:Int) (0:Int),BlkD.mk ((ByteArray.mk #[(97:UInt8),(98:UInt8),(99:UInt8),(101:UInt8)]).extract (Int.toNat (2:Int)) (Int.toNat (3:Int))) (0:Int) (0:Int),BlkD.mk ((ByteArray.mk #[(97:UInt8),(98:UInt8),(99:UInt8),(101:UInt8)]).extract (Int.toNat (3:Int)) (Int.toNat (4:Int))) (0:Int) (0:Int)]=kBs) <|
 some (.inr ([],AV.bool true))
def k24Step:k24Pc→Option (k24Pc⊕Ret)
 | .l0  =>k24S0
 | .l1  =>k24S1
 | .l2  =>k24S2
 | .l3  =>k24S3
 | .l4  =>k24S4
theorem k24En_ok(o:k24Pc⊕Ret)(h:k24En=some o):Arr Try.prog Try.f27 0 (k24St) k24Hd (zB Try.f27) [] {n:=Try.f27.ntmps,fr:=enumF 0 ([]),hp:=([])} o:=
 Scr2.ok h mix (
 .lp [] [(11,AV.lst []),(12,AV.lst []),(13,AV.lst []),(14,AV.lst []),(15,AV.lst []),(17,AV.lst [])] [] [] [] [0] [1,2] (aj (u2 (aj (ak (k3 (aj t5 (ak (u2 (ak (aj t4 (ak (al (k2 n11)))))))))) s2)) t4)) (by kernel_rfl)
theorem k24S0_ok(o:k24Pc⊕Ret)(h:k24S0=some o):Arr Try.prog Try.f27 0 (k24St) k24Hd (headC Try.f27 0) (.rnd (headC Try.f27 0)::headK Try.f27 0) (k24St (.l0)) o:=
 Scr2.ok h mix (
 .lp [] [] [] [] [] [0,2] [1,2] (aj (aj (u2 s2) (ak (aj (u2 (u2 (u2 (u2 (u2 (aj (k2 (aj (show(0:Int)≤(0:Int) from(by first | exact Nat.le_of_ble_eq_true rfl | decide)) (aj (show(0:Int)≤(1:Int) from(by first | exact Nat.le_of_ble_eq_true rfl | decide)) (show(1:Int)≤(4:Int) from(by first | exact Nat.le_of_ble_eq_true rfl | decide))))) (u2 (u2 (aj (k2 (aj (aj (show nat_lit 3=nat_lit 3 from rfl) (show nat_lit 1≤nat_lit 1 from(by first | exact Nat.le_of_ble_eq_true rfl | decide))) (aj (show nat_lit 1≤nat_lit 9223372036854775807 from(by first | exact Nat.le_of_ble_eq_true rfl | decide)) (show nat_lit 32≤nat_lit 140737488355328 from(by first | exact Nat.le_of_ble_eq_true rfl | decide))))) (u2 (al t3))))))))))) (al (u2 (u2 s2)))))) (k2 (aj (al t9) t2)))) (by kernel_rfl)
theorem k24S1_ok(o:k24Pc⊕Ret)(h:k24S1=some o):Arr Try.prog Try.f27 0 (k24St) k24Hd (headC Try.f27 0) (.rnd (headC Try.f27 0)::headK Try.f27 0) (k24St (.l1)) o:=
 Scr2.ok h mix (
 .lp [] [] [] [] [] [0,3] [1,2] (aj (aj (u2 s2) (ak (aj (u2 (u2 (u2 (u2 (u2 (aj (k2 (aj (show(0:Int)≤(1:Int) from(by first | exact Nat.le_of_ble_eq_true rfl | decide)) (aj (show(1:Int)≤(2:Int) from(by first | exact Nat.le_of_ble_eq_true rfl | decide)) (show(2:Int)≤(4:Int) from(by first | exact Nat.le_of_ble_eq_true rfl | decide))))) (u2 (u2 (aj (k2 (aj (show nat_lit 1=nat_lit 1 from rfl) (aj (aj (show nat_lit 3=nat_lit 3 from rfl) (show nat_lit 1≤nat_lit 1 from(by first | exact Nat.le_of_ble_eq_true rfl | decide))) (aj (show nat_lit 2≤nat_lit 9223372036854775807 from(by first | exact Nat.le_of_ble_eq_true rfl | decide)) (show nat_lit 64≤nat_lit 140737488355328 from(by first | exact Nat.le_of_ble_eq_true rfl | decide)))))) (u2 (al t3))))))))))) (al (u2 (u2 s2)))))) (k2 (aj (al t9) t2)))) (by kernel_rfl)
theorem k24S2_ok(o:k24Pc⊕Ret)(h:k24S2=some o):Arr Try.prog Try.f27 0 (k24St) k24Hd (headC Try.f27 0) (.rnd (headC Try.f27 0)::headK Try.f27 0) (k24St (.l2)) o:=
 Scr2.ok h mix (
 .lp [] [] [] [] [] [0,3] [1,2] (aj (aj (u2 s2) (ak (aj (u2 (u2 (u2 (u2 (u2 (aj (k2 (aj (show(0:Int)≤(2:Int) from(by first | exact Nat.le_of_ble_eq_true rfl | decide)) (aj (show(2:Int)≤(3:Int) from(by first | exact Nat.le_of_ble_eq_true rfl | decide)) (show(3:Int)≤(4:Int) from(by first | exact Nat.le_of_ble_eq_true rfl | decide))))) (u2 (u2 (aj (k2 (aj (show nat_lit 2=nat_lit 2 from rfl) (aj (aj (show nat_lit 3=nat_lit 3 from rfl) (show nat_lit 1≤nat_lit 1 from(by first | exact Nat.le_of_ble_eq_true rfl | decide))) (aj (show nat_lit 3≤nat_lit 9223372036854775807 from(by first | exact Nat.le_of_ble_eq_true rfl | decide)) (show nat_lit 96≤nat_lit 140737488355328 from(by first | exact Nat.le_of_ble_eq_true rfl | decide)))))) (u2 (al t3))))))))))) (al (u2 (u2 s2)))))) (k2 (aj (al t9) t2)))) (by kernel_rfl)
theorem k24S3_ok(o:k24Pc⊕Ret)(h:k24S3=some o):Arr Try.prog Try.f27 0 (k24St) k24Hd (headC Try.f27 0) (.rnd (headC Try.f27 0)::headK Try.f27 0) (k24St (.l3)) o:=
 Scr2.ok h mix (
 .lp [] [] [] [] [] [0,1000003] [1,2] (aj (aj (u2 s2) (ak (aj (u2 (u2 (u2 (u2 (u2 (aj (k2 (aj (show(0:Int)≤(3:Int) from(by first | exact Nat.le_of_ble_eq_true rfl | decide)) (aj (show(3:Int)≤(4:Int) from(by first | exact Nat.le_of_ble_eq_true rfl | decide)) (show(4:Int)≤(4:Int) from(by first | exact Nat.le_of_ble_eq_true rfl | decide))))) (u2 (u2 (aj (k2 (aj (show nat_lit 3=nat_lit 3 from rfl) (aj (aj (show nat_lit 3=nat_lit 3 from rfl) (show nat_lit 1≤nat_lit 1 from(by first | exact Nat.le_of_ble_eq_true rfl | decide))) (aj (show nat_lit 4≤nat_lit 9223372036854775807 from(by first | exact Nat.le_of_ble_eq_true rfl | decide)) (show nat_lit 128≤nat_lit 140737488355328 from(by first | exact Nat.le_of_ble_eq_true rfl | decide)))))) (u2 (al t3))))))))))) (al (u2 (u2 s2)))))) (k2 (al (al (aj (show nat_lit 4=nat_lit 4 from rfl) t8)))))) (by kernel_rfl)
theorem k24S4_ok(o:k24Pc⊕Ret)(h:k24S4=some o):Arr Try.prog Try.f27 0 (k24St) k24Hd (headC Try.f27 0) (.rnd (headC Try.f27 0)::headK Try.f27 0) (k24St (.l4)) o:=
 Scr2.ok h mix (
 .rn 0 [] [] [] [] (al (u2 s2)) <|
 .gu fun a0=>
 have c0:=r20n_k ([BlkD.mk ((ByteArray.mk #[97,98,99,101]).extract (Int.toNat 0) (Int.toNat 1)) 0 0,BlkD.mk ((ByteArray.mk #[97,98,99,101]).extract (Int.toNat 1) (Int.toNat 2)) 0 0,BlkD.mk ((ByteArray.mk #[97,98,99,101]).extract (Int.toNat 2) (Int.toNat 3)) 0 0,BlkD.mk ((ByteArray.mk #[97,98,99,101]).extract (Int.toNat 3) (Int.toNat 4)) 0 0]) a0;
 have c1:=leg_k1 ([BlkD.mk ((ByteArray.mk #[97,98,99,101]).extract (Int.toNat 0) (Int.toNat 1)) 0 0,BlkD.mk ((ByteArray.mk #[97,98,99,101]).extract (Int.toNat 1) (Int.toNat 2)) 0 0,BlkD.mk ((ByteArray.mk #[97,98,99,101]).extract (Int.toNat 2) (Int.toNat 3)) 0 0,BlkD.mk ((ByteArray.mk #[97,98,99,101]).extract (Int.toNat 3) (Int.toNat 4)) 0 0]) a0;
 have c2:=leg_k2 ([BlkD.mk ((ByteArray.mk #[97,98,99,101]).extract (Int.toNat 0) (Int.toNat 1)) 0 0,BlkD.mk ((ByteArray.mk #[97,98,99,101]).extract (Int.toNat 1) (Int.toNat 2)) 0 0,BlkD.mk ((ByteArray.mk #[97,98,99,101]).extract (Int.toNat 2) (Int.toNat 3)) 0 0,BlkD.mk ((ByteArray.mk #[97,98,99,101]).extract (Int.toNat 3) (Int.toNat 4)) 0 0]) a0;
 have c3:=si_k1;
 have c4:=si_k2;
 .rt [] [(67,AV.lst []),(72,AV.lst [])] [(36,hK c0 [] []),(42,hK c1 [] []),(49,hK c2 [] []),(68,hK c3 [] []),(73,hK c4 [] [])] [] [] [] (aj (ak (aj (u2 (aj (ak (aj t9 (al (c0)))) (u2 (u2 (u2 (ak (aj (k2 n11) s2))))))) (aj (u2 (u2 (aj (k2 (aj t9 (aj t4 (k2 (al (c1)))))) (u2 (u2 (u2 (u2 (u2 (u2 s2))))))))) (aj (u2 (u2 (aj (k2 (aj t9 (aj t4 (k2 (al (c2)))))) (u2 (u2 (u2 (u2 (u2 (u2 s2))))))))) (al (u2 (u2 (u2 (aj t3 (aj t3 (aj t3 (u2 (aj t3 (aj t3 (u2 (aj t3 (aj t3 (u2 (aj t3 (u2 (aj (k5 (al (c3))) (aj t3 (u2 (aj t3 (u2 (aj (k5 (al (c4))) (aj t3 s2))))))))))))))))))))))))))) t2)) (by kernel_rfl)
theorem k24_ct(r:Ret)(h:MReach (k24Step) (k24En) r):CT Try.prog 27 ([]) ([]) r.1 r.2:=
 CT.mach (fn:=Try.f27) (c:=zB Try.f27) (S:=k24St) (hd:=k24Hd) Try.func27 (by kernel_rfl) (Nat.le_of_ble_eq_true rfl)
  (fun s o ho=>match s,ho with
   | .l0,ho=>k24S0_ok  o ho
   | .l1,ho=>k24S1_ok  o ho
   | .l2,ho=>k24S2_ok  o ho
   | .l3,ho=>k24S3_ok  o ho
   | .l4,ho=>k24S4_ok  o ho
  )
  (fun o ho=>k24En_ok o ho) h
end Go.Proofs.Ytedjkebooffjpaa
namespace Go.Proofs.Ytedjkebooffjpaa
theorem kn24_c:CT Try.prog 27 [] [] [] (.bool true):=by
 refine k24_ct ([],_) ?_
 show MReach k24Step (some (.inl .l0)) ([],.bool true)
 refine .to (show k24S0=some (.inl .l1) from rfl) (.to (show k24S1=some (.inl .l2) from rfl) (.to (show k24S2=some (.inl .l3) from rfl) (.to (show k24S3=some (.inl .l4) from rfl) ?_)))
 refine .to (show k24S4=_ from ?_) (.ret _)
 unfold k24S4
 rw[gu_t (by kernel_rfl)]
def dsL(g:List (List Int))(k:Nat)(goal:Int):List Int:=distL g (List.replicate k false) goal.toNat g.length
theorem dis_x(g:List (List Int))(k:Nat)(goal:Int)(hg:OkG g (List.replicate k false))(ha:Asc g)(h0:0≤goal∧goal<(g.length:Int)):
  CT Try.prog 32 [] [.lst (gL g),.lst (List.replicate k (.bool false)),.int .i64 goal] [] (.tup [lI (dsL g k goal),.int .i64 0]):=by
 have h:=Distances_ct hg ha goal.toNat (by omega)
 rw[Int.toNat_of_nonneg h0.1] at h
 rw[boR]
 exact h
@[irreducible] def lgL(n:NetD)(s:SigD)(c d:Int):List Int:=(legO n s c d).1
@[irreducible] def lgB(n:NetD)(s:SigD)(c d:Int):Bool:=(legO n s c d).2
theorem leg_j{n:NetD}(cl:List Bool)(bw pe:List Int)(c d:Int)(hrw:Rows n.nx):CT Try.prog 30 [] [netA n,sgA ⟨cl,bw,pe⟩,.int .i64 c,.int .i64 d] [] (.tup [lI (lgL n ⟨cl,bw,pe⟩ c d),.bool (lgB n ⟨cl,bw,pe⟩ c d),.int .i64 (legE n ⟨cl,bw,pe⟩ c d)]):=by
 unfold lgL lgB;exact leg_c cl bw pe c d hrw
theorem r20n_j{n:NetD}(hv:ValidN n)(hrw:Rows n.nx):CT Try.prog 31 [] [netA n] [] (.tup [sgA (nsJ n),.int .i64 0]):=by
 have h:=r20n_c (n:=n) hrw
 have e1:nsS n=newS n:=by unfold nsS;rw[valB_iff.2 hv];rfl
 have e2:nsE n=0:=by unfold nsE;rw[valB_iff.2 hv];rfl
 rw[e1,e2] at h
 rw[nsJ_eq]
 exact h
inductive sopPc where
 | l0 (v0:Int)
def sopSt(ls:List Int):sopPc→St
 | .l0 v0=>St.mk 121 [(4,AV.ptr 0 0 0),(5,AV.ptr 1 0 0),(8,iv (nextZ ls (netK ls 0 8+1) (iN (List.map sA (netM ls 0 8).ss).length))),(14,iv v0)] [some (Blk.mk [netA (netM ls 0 8)] 8 true true none),some (Blk.mk [AV.agg [AV.lst (boL (nsJ (netM ls 0 8)).cl),AV.lst (List.map (iv) (nsJ (netM ls 0 8)).bw),AV.lst (List.map (iv) (nsJ (netM ls 0 8)).pe)]] 3 true true none)]
def sopHd:sopPc→Nat
 | .l0 _=>0
def sopEn(ls:List Int):Option (sopPc⊕Ret):=
 gu (ValidN (netM ls 0 8)) <|
 gu (Rows (netM ls 0 8).nx) <|
 gu (netK ls 0 8<9223372036854775807) <|
 gu (netK ls 0 8+1<9223372036854775807) <|
 gu (1 * iN (List.map bA (netM ls 0 8).bs).length≤281474976710656) <|
 gu (iN (List.map bA (netM ls 0 8).bs).length≤9223372036854775807) <|
 gu (0≤nextZ ls (netK ls 0 8+1) (iN (List.map sA (netM ls 0 8).ss).length)) <|
 el ((netM ls 0 8).ss) ((nextZ ls (netK ls 0 8+1) (iN (List.map sA (netM ls 0 8).ss).length)).toNat) fun(x59:SpuD)=>
 gu (OkG (netM ls 0 8).nx (List.replicate (List.map bA (netM ls 0 8).bs).length false)) <|
 gu (Asc (netM ls 0 8).nx) <|
 gu (0≤x59.i∧x59.i<iN (netM ls 0 8).nx.length) <|
 br (legE (netM ls 0 8) (nsJ (netM ls 0 8)) (nextZ ls (netK ls 0 8) (iN (List.map bA (netM ls 0 8).bs).length)) (nextZ ls (netK ls 0 8+1) (iN (List.map sA (netM ls 0 8).ss).length)) != 0)
 (some (.inr ([],AV.bool false)))
 (br (!lgB (netM ls 0 8) (nsJ (netM ls 0 8)) (nextZ ls (netK ls 0 8) (iN (List.map bA (netM ls 0 8).bs).length)) (nextZ ls (netK ls 0 8+1) (iN (List.map sA (netM ls 0 8).ss).length)))
  (some (.inr ([],AV.bool false)))
  (br (iN (List.map (AV.int IntKind.i64) (dsL (netM ls 0 8).nx (List.map bA (netM ls 0 8).bs).length x59.i)).length != iN (List.map bA (netM ls 0 8).bs).length)
   (some (.inr ([],AV.bool false)))
   (gu (0≤nextZ ls (netK ls 0 8) (iN (List.map bA (netM ls 0 8).bs).length)) <|
    el (dsL (netM ls 0 8).nx (List.map bA (netM ls 0 8).bs).length x59.i) ((nextZ ls (netK ls 0 8) (iN (List.map bA (netM ls 0 8).bs).length)).toNat) fun(x88:Int)=>
    el ((netM ls 0 8).ss) ((nextZ ls (netK ls 0 8+1) (iN (List.map sA (netM ls 0 8).ss).length)).toNat) fun(x93:SpuD)=>
    br (iN (List.map (AV.int IntKind.i64) (lgL (netM ls 0 8) (nsJ (netM ls 0 8)) (nextZ ls (netK ls 0 8) (iN (List.map bA (netM ls 0 8).bs).length)) (nextZ ls (netK ls 0 8+1) (iN (List.map sA (netM ls 0 8).ss).length)))).length != IntKind.i64.wrap (x88+x93.k))
    (some (.inr ([],AV.bool false)))
    (some (.inl (.l0 ((0:Int))))))))
def sopS0(ls:List Int)(v0:Int):Option (sopPc⊕Ret):=
 br (decide (v0<iN (boL (nsJ (netM ls 0 8)).cl).length))
 (gu (Rows (netM ls 0 8).nx) <|
  br (!lgB (netM ls 0 8) (nsJ (netM ls 0 8)) v0 (nextZ ls (netK ls 0 8+1) (iN (List.map sA (netM ls 0 8).ss).length)))
  (some (.inr ([],AV.bool false)))
  (br (legE (netM ls 0 8) (nsJ (netM ls 0 8)) v0 (nextZ ls (netK ls 0 8+1) (iN (List.map sA (netM ls 0 8).ss).length)) != 0)
   (some (.inr ([],AV.bool false)))
   (some (.inl (.l0 (IntKind.i64.wrap (v0+1)))))))
 (some (.inr ([],AV.bool true)))
def sopStep(ls:List Int):sopPc→Option (sopPc⊕Ret)
 | .l0 v0=>sopS0 ls v0
theorem sopEn_ok(ls:List Int)(o:sopPc⊕Ret)(h:sopEn ls=some o):Arr Try.prog Try.f6 0 (sopSt ls) sopHd (zB Try.f6) [] {n:=Try.f6.ntmps,fr:=enumF 0 ([lI ls]),hp:=([])} o:=
 Scr.ok h mix (
 have c0:=kn24_c;
 have c1:=net_ct (ls) (0) (8) (show nat_lit 0≤(5000:Nat) from(by first | exact Nat.le_of_ble_eq_true rfl | decide)) (show(1:Int)≤(8:Int)∧(8:Int)≤(20:Int) from ⟨(by first | exact Nat.le_of_ble_eq_true rfl | decide),(by first | exact Nat.le_of_ble_eq_true rfl | decide)⟩);
 .rn 3 [] [] [(18,hK c0 [] []),(24,hK c1 [0] [])] [] (u2 (aj (aj (al (c0)) s2) (ak (aj (u2 (u2 (u2 s2))) (al (u2 (aj (ak (k3 (al (c1)))) (ak (al (k2 n11)))))))))) <|
 .gu fun a0=>
 .gu fun a1=>
 have c2:=r20n_j a0 a1;
 .rn 0 [] [] [(27,hK c2 [] [])] [] (al (u2 (aj (ak (aj t9 (al (c2)))) (u2 (u2 (u2 (ak (aj (k2 n11) s2)))))))) <|
 .gu fun a2=>
 .gu fun a3=>
 have c3:=next_ct (ls) (netK ls 0 8) (iN (List.map bA (netM ls 0 8).bs).length) a2;
 have c4:=next_ct (ls) (netK ls 0 8+1) (iN (List.map sA (netM ls 0 8).ss).length) a3;
 have c5:=leg_j ((nsJ (netM ls 0 8)).cl) ((nsJ (netM ls 0 8)).bw) ((nsJ (netM ls 0 8)).pe) (nextZ ls (netK ls 0 8) (iN (List.map bA (netM ls 0 8).bs).length)) (nextZ ls (netK ls 0 8+1) (iN (List.map sA (netM ls 0 8).ss).length)) a1;
 .rn 1 [] [] [(34,hK c3 [0] []),(39,hK c4 [0] []),(45,hK c5 [] [])] [] (aj (u2 (u2 (u2 (u2 (aj (k5 (al (c3))) (u2 (u2 (u2 (u2 (aj (k5 (al (c4))) (u2 s2))))))))))) (al (u2 (u2 (u2 (u2 (aj (ak (k3 (aj t9 (aj t4 (k2 (al (c5))))))) (u2 (u2 (u2 (u2 (u2 (u2 s2))))))))))))) <|
 .gu fun a4=>
 .gu fun a5=>
 .gu fun a6=>
 .el fun x59 a7=>
 .gu fun a8=>
 .gu fun a9=>
 .gu fun a10=>
 have c6:=dis_x ((netM ls 0 8).nx) ((List.map bA (netM ls 0 8).bs).length) (x59.i) a8 a9 a10;
 .rn 0 [] [(55,AV.lst []),(59,sA x59)] [(62,hK c6 [] [])] [] (al (u2 (u2 (u2 (u2 (u2 (aj (k2 (aj (show 0≤iN (List.map bA (netM ls 0 8).bs).length from(Int.natCast_nonneg _)) (aj (show iN (List.map bA (netM ls 0 8).bs).length≤iN (List.map bA (netM ls 0 8).bs).length by omega) (aj a4 a5)))) (u2 (u2 (u2 (aj (k2 (aj a6 (getMap (f:=sA) a7))) (u2 (u2 (aj (ak (k5 (al (c6)))) (u2 (u2 (u2 (u2 s2)))))))))))))))))) <|
 .br (fun a11=>
 .rt [135] [] [] [] [] [] (aj (aj (u2 (u2 (u2 (aj a11 (aj a11 (ag a11 (u2 (k2 (aj t3 (u2 (ak (k5 (aj t3 (u2 (ak (k3 (k5 (k5 (al t3))))))))))))))))))) (ak s2)) t2))
 (fun a11=>
 .br (fun a12=>
  .rt [134,151] [] [] [] [] [] (aj (aj (u2 (u2 (u2 (ag a11 (ag a11 (ag a11 (u2 (aj t3 (aj t3 (aj t3 (u2 (aj a12 (aj a12 (aj a12 (aj a12 (aj a12 (aj a12 (ag a12 (u2 (ak (k3 (k5 (k5 (al t3)))))))))))))))))))))))) (ak s2)) t2))
 (fun a12=>
  .br (fun a13=>
  .rt [134,150,167] [] [] [] [] [] (aj (aj (u2 (u2 (u2 (ag a11 (ag a11 (ag a11 (u2 (aj t3 (aj t3 (aj t3 (u2 (ag a12 (ag a12 (ag a12 (ag a12 (ag a12 (aj (aj a12 t3) (ag a12 (u2 (aj a13 (aj a13 (aj a13 (aj a13 (aj a13 (aj a13 (aj a13 (aj a13 (aj a13 (aj a13 (aj a13 (aj a13 (aj a13 (aj a13 (al (aj a13 t2))))))))))))))))))))))))))))))))))) (ak s2)) t2))
  (fun a13=>
  .gu fun a14=>
  .el fun x88 a15=>
  .el fun x93 a16=>
  .rn 0 [134,150,166] [(88,iv x88),(93,sA x93)] [] [] (al (u2 (u2 (u2 (ag a11 (ag a11 (ag a11 (u2 (aj t3 (aj t3 (aj t3 (u2 (ag a12 (ag a12 (ag a12 (ag a12 (ag a12 (aj (aj a12 t3) (ag a12 (u2 (ag a13 (ag a13 (ag a13 (ag a13 (aj (aj a13 (k2 (aj a14 (getMap (f:=iv) a15)))) (ag a13 (ag a13 (ag a13 (ag a13 (aj (aj a13 (k2 (aj a6 (getMap (f:=sA) a16)))) (ag a13 (ag a13 (aj (aj a13 t3) (aj (aj a13 t3) (al (aj a13 t2)))))))))))))))))))))))))))))))))))) <|
  .br (fun a17=>
   .rt [134,150,166,197] [] [] [] [] [] (aj (aj a17 s2) t2))
  (fun a17=>
   .lp [134,150,166,196] [] [] [] [] [1,2] [4,5,8,14] (aj (aj a17 s2) t7)))))) (by kernel_rfl)
theorem sopS0_ok(ls:List Int)(v0:Int)(o:sopPc⊕Ret)(h:sopS0 ls v0=some o):Arr Try.prog Try.f6 0 (sopSt ls) sopHd (headC Try.f6 0) (.rnd (headC Try.f6 0)::headK Try.f6 0) (sopSt ls (.l0 v0)) o:=
 Scr.ok h mix (
 .rn 0 [] [] [] [] (al (u2 (u2 (u2 (u2 (al t3)))))) <|
 .br (fun a0=>
 .gu fun a1=>
 have c0:=leg_j ((nsJ (netM ls 0 8)).cl) ((nsJ (netM ls 0 8)).bw) ((nsJ (netM ls 0 8)).pe) v0 (nextZ ls (netK ls 0 8+1) (iN (List.map sA (netM ls 0 8).ss).length)) a1;
 .rn 0 [207] [] [(111,hK c0 [] [])] [] (aj a0 (al (u2 (u2 (u2 (u2 (aj (ak (k3 (aj t9 (aj t4 (k2 (al (c0))))))) (u2 (u2 (u2 (u2 (u2 (u2 s2))))))))))))) <|
 .br (fun a2=>
  .rt [235] [] [] [] [] [] (aj (aj (u2 (u2 (u2 (aj a2 (aj a2 (al (aj a2 t2))))))) (ak s2)) t2))
 (fun a2=>
  .rn 0 [234] [] [] [] (al (u2 (u2 (u2 (ag a2 (ag a2 (al (aj a2 t2)))))))) <|
  .br (fun a3=>
  .rt [234,241] [] [] [] [] [] (aj (aj a3 s2) t2))
  (fun a3=>
  .lp [234,240] [] [] [] [] [0,1] [4,5,8,14] (aj (aj a3 (al (u2 (u2 s2)))) t7))))
 (fun a0=>
 .rt [206] [] [] [] [] [] (aj (aj a0 s2) t2))) (by kernel_rfl)
theorem sop_ct(ls:List Int)(r:Ret)(h:MReach (sopStep ls) (sopEn ls) r):CT Try.prog 6 ([]) ([lI ls]) r.1 r.2:=
 CT.mach (fn:=Try.f6) (c:=zB Try.f6) (S:=sopSt ls) (hd:=sopHd) Try.func6 (by kernel_rfl) (Nat.le_of_ble_eq_true rfl)
  (fun s o ho=>match s,ho with
   | .l0 v0,ho=>sopS0_ok ls v0 o ho
  )
  (fun o ho=>sopEn_ok ls o ho) h
theorem shP_new(n:NetD)(hv:ValidN n)(a b:Int):shP n (newS n) a b=List.replicate n.bs.length false:=by
 have h48:=celN_le hv
 have e:shtS (newS n)=List.replicate (celN n) false:=rfl
 apply List.ext_getElem?
 intro i
 unfold shP
 rw[e,List.getElem?_map,List.getElem?_replicate]
 by_cases hi:i<n.bs.length
 ·rw[if_pos hi,List.getElem?_range hi]
  refine congrArg some ?_
  show(!(!(List.replicate (celN n) false).getD i true||_))=false
  rw[getR (show i<celN n by omega)]
  rfl
 ·rw[if_neg hi,List.getElem?_eq_none (by rw[List.length_range];omega)];rfl
theorem ds_new{n:NetD}(hn:NetOk n){a b:Nat}(ha:a<n.bs.length)(hb:b<n.bs.length):0≤dsS n.nx (List.replicate n.bs.length false) a b∧dsS n.nx (List.replicate n.bs.length false) a b<24∧
  Pth n.nx (List.replicate n.bs.length false) a b (pthS n.nx (List.replicate n.bs.length false) a b):=by
 have hnx:=hn.v.nx
 have hg:=(okg hn.v hn.rows (s:=List.replicate n.bs.length false) (by simp)).1
 have h0:=ds_all hg (fun x hx=>by rw[List.getD_eq_getElem?_getD,List.getElem?_replicate];split<;>rfl) (by rw[hnx];exact hn.rng) (v:=a) (goal:=b) (by omega) (by omega)
 have hd:=(dst_ok hg (goal:=b) (by omega)).bnd a (by omega)
 have hl:=hg.len
 exact⟨h0,by unfold dsS;omega,pth_ok hg (by omega) (by omega) h0⟩
theorem legP_new{n:NetD}(hn:NetOk n){a b:Int}(ha:0≤a∧a<(n.bs.length:Int))(hb:0≤b∧b<(n.bs.length:Int)):legP n (newS n) a b≠[]∧((legP n (newS n) a b).tail.length:Int)=dsS n.nx (List.replicate n.bs.length false) a.toNat b.toNat:=by
 obtain⟨h0,h1,hp⟩:=ds_new hn (a:=a.toNat) (b:=b.toNat) (by omega) (by omega)
 have hne:pthS n.nx (List.replicate n.bs.length false) a.toNat b.toNat≠[]:=fun e=>by have:=hp.pos;rw[e] at this;exact absurd this (by simp)
 unfold legP
 rw[shP_new n hn.v,if_neg hne]
 have:=hp.len
 have hpos:=hp.pos
 exact⟨hne,by rw[List.length_tail];omega⟩
theorem legR_new{n:NetD}(hn:NetOk n){c sp:Int}(hc:0≤c∧c<(celN n:Int))(hsp:0≤sp∧sp<(n.ss.length:Int)):∃l,legR n (newS n) c sp=some l:=by
 have hs:=getE s0 (show sp.toNat<n.ss.length by omega)
 have gi:=(hn.v.goodT _ _ hs).hi
 unfold legR
 cases hp:plF n c with
 | none=>
  have hb:=plF_block hn.v hc.1 hc.2 hp
  simp only
  rw[if_neg (legP_new hn ⟨hc.1,hb⟩ (by omega)).1]
  exact⟨_,rfl⟩
 | some i=>
  obtain⟨t,ht,hg,h1,h2,hil⟩:=plF_some hp
  have go:=(hn.v.goodT _ _ ht).ho
  simp only[hg]
  split
  ·exact⟨_,rfl⟩
  ·rw[if_neg (legP_new hn (a:=t.o) (by omega) (by omega)).1]
   exact⟨_,rfl⟩
theorem newS_free{n:NetD}{x:Int}(h:0≤x∧x<(celN n:Int)):(newS n).cl.getD x.toNat true=false:=getR (by omega)
theorem leg_new{n:NetD}(hn:NetOk n){c sp:Int}(hc:0≤c∧c<(celN n:Int))(hsp:0≤sp∧sp<(n.ss.length:Int)):
  legE n (nsJ n) c sp=0∧lgB n (nsJ n) c sp=true∧∃l,legR n (newS n) c sp=some l∧lgL n (nsJ n) c sp=l:=by
 obtain⟨l,hl⟩:=legR_new hn hc hsp
 have e0:legE n (newS n) c sp=0:=by unfold legE;rw[if_pos (ks_b hn.v (newS_ok n)),if_pos ⟨hc,hsp⟩]
 have hp:pasB (newS n).cl l=true:=pasB_iff.2 fun x hx=>newS_free (legR_rng hn.v hn.rows hc hsp hl x hx)
 have e1:legO n (newS n) c sp=(l,true):=by unfold legO legS;rw[if_pos e0,hl];simp only;rw[if_pos hp]
 rw[nsJ_eq]
 unfold lgB lgL
 rw[e1]
 exact⟨e0,rfl,l,hl,rfl⟩
theorem plF_bl{n:NetD}(hv:ValidN n){c:Int}(h:c<(n.bs.length:Int)):plF n c=none:=by
 cases hp:plF n c with
 | none=>rfl
 | some i=>
  obtain⟨t,ht,hg,h1,h2,hil⟩:=plF_some hp
  have hb:=hv.sb ht
  have hm:=baseN_mono hv (i:=0) (j:=i) (Nat.zero_le _) (by omega)
  have e:baseN n 0=n.bs.length:=by unfold baseN;simp
  omega
theorem sop_run(ls:List Int):CT Try.prog 6 [] [lI ls] [] (.bool true):=by
 obtain⟨hn,hk,_⟩:=net_spec (L:=ls) (kk:=0) (most:=8) (by decide) (by decide)
 have hv:=hn.v
 have h24:=hv.nb24
 have h48:=celN_le hv
 have hns:=hv.ns
 have hln:=hn.ln
 have hnx:=hv.nx
 refine sop_ct ls ([],_) ?_
 unfold sopEn
 have hx:=nextZ_rng ls (netK ls 0 8) (iN (List.map bA (netM ls 0 8).bs).length) (by simp only[iN,List.length_map];omega) (by simp only[iN,List.length_map];omega)
 have hq:=nextZ_rng ls (netK ls 0 8+1) (iN (List.map sA (netM ls 0 8).ss).length) (by simp only[iN,List.length_map];omega) (by simp only[iN,List.length_map];omega)
 rw[gu_t hv,gu_t hn.rows,gu_t (by omega),gu_t (by omega),gu_t (by simp only[iN,List.length_map];omega),gu_t (by simp only[iN,List.length_map];omega)]
 generalize hxe:nextZ ls (netK ls 0 8) (iN (List.map bA (netM ls 0 8).bs).length)=x at hx ⊢
 have hqx:(∀v0,sopS0 ls v0=sopS0 ls v0):=fun _=>rfl
 have hqe:∃q,nextZ ls (netK ls 0 8+1) (iN (List.map sA (netM ls 0 8).ss).length)=q:=⟨_,rfl⟩
 obtain⟨q,hqe⟩:=hqe
 rw[hqe] at hq ⊢
 simp only[iN,List.length_map] at hx hq
 have hs:=getE s0 (show q.toNat<(netM ls 0 8).ss.length by omega)
 have gi:=(hv.goodT _ _ hs).hi
 have hsb:=hv.sb hs
 obtain⟨hg,ha⟩:=okg hv hn.rows (s:=List.replicate (netM ls 0 8).bs.length false) (by simp)
 have eb:(List.map bA (netM ls 0 8).bs).length=(netM ls 0 8).bs.length:=List.length_map ..
 obtain⟨e0,e1,l,hl,e2⟩:=leg_new hn (c:=x) (sp:=q) (by omega) (by omega)
 obtain⟨d0,d1,_⟩:=ds_new hn (a:=x.toNat) (b:=((netM ls 0 8).ss.getD q.toNat s0).i.toNat) (by omega) (by omega)
 have hdl:(dsL (netM ls 0 8).nx (netM ls 0 8).bs.length ((netM ls 0 8).ss.getD q.toNat s0).i).length=(netM ls 0 8).bs.length:=by unfold dsL;rw[distL_len,hnx]
 have hdx:(dsL (netM ls 0 8).nx (netM ls 0 8).bs.length ((netM ls 0 8).ss.getD q.toNat s0).i)[x.toNat]?=some (dsS (netM ls 0 8).nx (List.replicate (netM ls 0 8).bs.length false) x.toNat ((netM ls 0 8).ss.getD q.toNat s0).i.toNat):=getE 0 (by omega)
 have hlen:(l.length:Int)=dsS (netM ls 0 8).nx (List.replicate (netM ls 0 8).bs.length false) x.toNat ((netM ls 0 8).ss.getD q.toNat s0).i.toNat+((netM ls 0 8).ss.getD q.toNat s0).k:=by
  have hlp:=legP_new hn (a:=x) (b:=((netM ls 0 8).ss.getD q.toNat s0).i) (by omega) (by omega)
  unfold legR at hl
  rw[plF_bl hv (by omega)] at hl
  simp only at hl
  rw[if_neg hlp.1] at hl
  have hl:=Option.some.inj hl
  rw[←hl,List.length_append,sltL_len]
  have:=hlp.2
  omega
 rw[eb,gu_t hq.1,el_t hs,gu_t hg,gu_t ha,gu_t (by simp only[iN];omega),e0,br_f (by rfl),e1,br_f (by rfl),br_f (by simp only[iN,List.length_map];rw[hdl];exact bne_self_eq_false _),gu_t hx.1,el_t hdx,el_t hs,e2,
  wrap_in (by omega) (by omega),br_f (by simp only[iN,List.length_map];rw[hlen];exact bne_self_eq_false _)]
 have hC:(boL (nsJ (netM ls 0 8)).cl).length=celN (netM ls 0 8):=by rw[boL_len,nsJ_eq];exact List.length_replicate ..
 refine loop_up (fun i=>sopPc.l0 (i:Int)) (celN (netM ls 0 8)) (fun i hi h=>?_) ?_
 ·refine .to (show sopS0 ls i=_ from ?_) h
  obtain⟨f0,f1,_⟩:=leg_new hn (c:=(i:Int)) (sp:=q) (by omega) (by omega)
  unfold sopS0
  rw[hC,hqe,br_t (dec_t (by simp only[iN];omega)),gu_t hn.rows,f1,br_f (by rfl),f0,br_f (by rfl),zW i (by omega)]
 ·refine .to (show sopS0 ls (celN (netM ls 0 8):Nat)=_ from ?_) (.ret _)
  unfold sopS0
  rw[hC,br_f (dec_f (by simp only[iN];omega))]
theorem itineraryOpen_row(avs:List AV)(h:ShVs Try.prog 6 Try.f6.params.toList avs):CT Try.prog 6 [] avs [] (.bool true):=by
 rw[Try.params6] at h
 obtain⟨a,_,rfl,ka,h⟩:=h.consD
 obtain rfl:=h.nilD
 obtain⟨_,_,he,rfl⟩:=ka.sliceD Try.underlying22
 obtain⟨l,rfl⟩:=rdInts he
 exact sop_run l
end Go.Proofs.Ytedjkebooffjpaa

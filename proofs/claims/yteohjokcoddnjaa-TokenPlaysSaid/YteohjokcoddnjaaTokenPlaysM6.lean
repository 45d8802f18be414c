/- Parts of the proof: TkN, TkO, TkS, Tk8m, TkT, Tl1m, TlA. -/
import Derived.KernelRfl
import Derived.Test.YteohjokcoddnjaaProg
import Derived.Test.YteohjokcoddnjaaTokenPlaysM5
open Go Go.AX Go.Proofs
set_option maxRecDepth 100000
set_option linter.unusedVariables false
set_option linter.unusedSimpArgs false
namespace Go.Proofs.Yteohjokcoddnjaa
theorem fill_way {g : List (List Int)} {v : Int} (hrw : Rows g) (hv : valZ g = true) (h0 : 0 ≤ v) (h1 : v < (g.length : Int)) :
    bstN (dsT g v) (girW g) (girW g).length = -1 ∨ ∃ b m : Nat, bstN (dsT g v) (girW g) (girW g).length = (b : Int) ∧ WayH g v (girW g) b m ∧ m ≤ 24 ∧ (girW g).length ≤ 24 := by
  rcases bstN_spec (dsT g v) (girW g) (girW g).length with ⟨e, h⟩ | ⟨b, hb, e, hd, hmn⟩
  · exact .inl e
  · have hne : girW g ≠ [] := fun e => by rw [e] at hb; simp at hb
    obtain ⟨hg, has, hc, hn, h24⟩ := girW_cls hrw hv hne
    obtain ⟨m, hm⟩ : ∃ m : Nat, dsT g v ((girW g).getD b 0) = (m : Int) := ⟨(dsT g v ((girW g).getD b 0)).toNat, by omega⟩
    have hW : WayH g v (girW g) b m := ⟨hg, h0, h1, hc, hn, hb, hm, hmn⟩
    have hbd := hW.dst.bnd v.toNat (by omega)
    have := hg.len
    exact .inr ⟨b, m, e, hW, by unfold dsT at hm; omega, h24⟩
theorem girW_rg {g : List (List Int)} (hrw : Rows g) (hv : valZ g = true) {i : Nat} (hi : i < (girW g).length) : 0 ≤ (girW g).getD i 0 ∧ (girW g).getD i 0 < (g.length : Int) := by
  have hne : girW g ≠ [] := fun e => by rw [e] at hi; simp at hi
  obtain ⟨_, _, hc, _, _⟩ := girW_cls hrw hv hne
  have := hc.2.1 _ (get_mem hi)
  exact ⟨this.1, this.2.1⟩
theorem girW_24 {g : List (List Int)} (hrw : Rows g) (hv : valZ g = true) : (girW g).length ≤ 24 := by
  by_cases hne : girW g = []
  · rw [hne]; simp
  · exact (girW_cls hrw hv hne).2.2.2.2
theorem dsT_bnd {g : List (List Int)} {v x : Int} (hrw : Rows g) (hv : valZ g = true) (h0 : 0 ≤ v) (h1 : v < (g.length : Int)) (h2 : 0 ≤ x) (h3 : x < (g.length : Int)) : -1 ≤ dsT g v x ∧ dsT g v x < 24 := by
  obtain ⟨hg, _⟩ := valZ_ok hrw hv
  have hD := dst_ok hg (goal := x.toNat) (by omega)
  have := hD.bnd v.toNat (by omega)
  have := hg.len
  unfold dsT
  omega
noncomputable def bstP (g : List (List Int)) (v : Int) (b : Int) : List Int := if b < 0 then [] else pthL g v ((girW g).getD b.toNat 0)
theorem fillN_mv {l : List Int} {i : Nat} : fillN l i ++ mvN i l (l.length - i) = fillN l (i + 1) := (fillN_succ l i).symm
theorem mv_step {k : Nat} {l : List Int} {j : Nat} {a x : Int} (ha : a = if j = 0 then -1 else l.getD (j - 1) 0) (hx : x = l.getD j 0) : mvN k l j ++ [MvD.mk (k : Int) a x] = mvN k l (j + 1) := by
  rw [mvN_succ, ha, hx]
theorem fillO_20 {g : List (List Int)} {v : Int} (h : valZ g = false) : fillO g v = ([], 20) := by unfold fillO; rw [if_pos h]
theorem fillO_19 {g : List (List Int)} {v : Int} (h : valZ g = true) (hr : v < 0 ∨ (g.length : Int) ≤ v) : fillO g v = ([], 19) := by unfold fillO; rw [if_neg (by rw [h]; simp), if_pos hr]
theorem fillO_25 {g : List (List Int)} {v : Int} (h : valZ g = true) (h0 : 0 ≤ v) (h1 : v < (g.length : Int)) (hb : bstN (dsT g v) (girW g) (girW g).length < 0) : fillO g v = ([], 25) := by unfold fillO; rw [if_neg (by rw [h]; simp), if_neg (by omega), if_pos hb]
theorem fillO_0 {g : List (List Int)} {v : Int} (h : valZ g = true) (h0 : 0 ≤ v) (h1 : v < (g.length : Int)) {b : Nat} (hb : bstN (dsT g v) (girW g) (girW g).length = (b : Int)) : fillO g v = (fillN (wayO g v (girW g) b) (girW g).length, 0) := by
  unfold fillO; rw [if_neg (by rw [h]; simp), if_neg (by omega), if_neg (by omega), hb]; rfl
theorem tfi_walk {g : List (List Int)} {z : Int} {l : List Int} (hc : cycL g = girW g) (hW : (girW g).length ≤ 24) (hl : l.length ≤ 100) (hWl : (girW g).length ≤ l.length) :
    MReach (tfiStep g z) (some (.inl (.l1 l [] 0))) ([], .tup [.lst ((fillN l (girW g).length).map mvA), .int .i64 0]) := by
  have hfl : ∀ i, i ≤ (girW g).length → (fillN l i).length ≤ 2400 := fun i hi => by
    have := fillN_len l i
    have := Nat.mul_le_mul (show i ≤ 24 by omega) hl
    omega
  refine loop_up (fun i => tfiPc.l1 l (fillN l i) (i : Int)) (girW g).length (fun i hi h => ?_) ?_
  · have hw : IntKind.i64.wrap (iN (List.map (AV.int IntKind.i64) l).length - (i : Int)) = ((l.length - i : Nat) : Int) := by
      rw [wrap_in] <;> simp only [iN, List.length_map] <;> omega
    have ht : List.take (((l.length - i : Nat) : Int).toNat - Int.toNat 0) (List.drop (Int.toNat 0) l) = l.take (l.length - i) := by rw [Int.toNat_natCast]; rfl
    have ht2 : (List.take (((l.length - i : Nat) : Int).toNat - Int.toNat 0) (List.drop (Int.toNat 0) (List.map (AV.int IntKind.i64) l))).length = l.length - i := by
      rw [Int.toNat_natCast]; show (List.take (l.length - i) (List.map (AV.int IntKind.i64) l)).length = _
      rw [List.length_take, List.length_map]; omega
    refine .to (show tfiS1 g z l (fillN l i) i = some (.inl (.l2 l (fillN l i ++ mvN i l 0) i (if (0 : Nat) = 0 then -1 else l.getD (0 - 1) 0) (l.take (l.length - i)) (l.length - i) ((0 : Nat) : Int))) from ?_) ?_
    · unfold tfiS1
      rw [hc, br_t (dec_t (by simp only [iN, List.length_map]; omega)), gu_t (fun e he => by obtain ⟨x, _, rfl⟩ := List.mem_map.1 he; rfl), hw, gu_t (by omega), gu_t (by simp only [iN, List.length_map]; omega), ht, ht2, if_pos rfl]
      show _ = some (Sum.inl (tfiPc.l2 l (fillN l i ++ []) _ _ _ _ _))
      rw [List.append_nil]; rfl
    refine loop_up (fun j => tfiPc.l2 l (fillN l i ++ mvN i l j) i (if j = 0 then -1 else l.getD (j - 1) 0) (l.take (l.length - i)) (l.length - i) (j : Int)) (l.length - i) (fun j hj h => ?_) ?_
    · refine .to (show tfiS2 g z l _ i _ _ _ j = _ from ?_) h
      unfold tfiS2
      have h1 := hfl i (by omega)
      have h2 := mvN_len i l j
      rw [br_t (dec_t (by simp only [iN]; omega)), gu_t (by omega), elG 0 (show j < (l.take (l.length - i)).length by rw [List.length_take]; omega), getD_takeZ hj, gu_t (by simp only [List.length_map, List.length_append, List.length_singleton]; omega), gu_t (by simp only [List.length_map, List.length_append, List.length_singleton]; omega), wrap_nat j (by omega), List.append_assoc, mv_step rfl rfl]
      rfl
    · refine .to (show tfiS2 g z l _ i _ _ _ (l.length - i : Nat) = _ from ?_) h
      unfold tfiS2
      rw [br_f (dec_f (by simp only [iN]; omega)), fillN_mv, wrap_nat i (by omega)]
  · refine .to (show tfiS1 g z l _ (girW g).length = _ from ?_) (.ret _)
    unfold tfiS1
    rw [hc, rngE]
theorem tfill_c (g : List (List Int)) (z : Int) (hrw : Rows g) : CT Try.prog 29 [] [.lst (gL g), .int .i64 z] [] (.tup [.lst ((fillO g z).1.map mvA), .int .i64 (fillO g z).2]) := by
  have hgl := gL_len g
  cases hv : valZ g with
  | false =>
    rw [fillO_20 hv]
    have e : cycE g = 20 := by unfold cycE; rw [hv]; rfl
    exact (tfi_ct g z ([], _) (.val (show tfiEn g z = _ by unfold tfiEn; rw [gu_t hrw, e, br_t (by rfl)]))).to rfl rfl
  | true =>
  have h24 := val24 hv
  have e20 : (cycE g == 20) = false := by unfold cycE; rw [hv, if_pos rfl]; split <;> rfl
  by_cases h0 : z < 0
  · rw [fillO_19 hv (.inl h0)]
    exact (tfi_ct g z ([], _) (.val (show tfiEn g z = _ by unfold tfiEn; rw [gu_t hrw, br_f e20, br_t (dec_t h0)]))).to rfl rfl
  by_cases h1 : (g.length : Int) ≤ z
  · rw [fillO_19 hv (.inr h1)]
    exact (tfi_ct g z ([], _) (.val (show tfiEn g z = _ by unfold tfiEn; rw [gu_t hrw, br_f e20, br_f (dec_f h0), br_t (dec_t (by simp only [iN, hgl]; exact h1))]))).to rfl rfl
  have h0 := Int.not_lt.1 h0
  have h1 := Int.not_le.1 h1
  by_cases hw : girW g = []
  · have e : cycE g = 25 := by unfold cycE; rw [hv, if_pos rfl, if_pos hw]
    rw [fillO_25 hv h0 h1 (by rw [hw]; show (-1 : Int) < 0; omega)]
    exact (tfi_ct g z ([], _) (.val (show tfiEn g z = _ by unfold tfiEn; rw [gu_t hrw, br_f e20, br_f (dec_f (by omega)), br_f (dec_f (by simp only [iN, hgl]; omega)), e, br_t (by rfl)]))).to rfl rfl
  have e0 : cycE g = 0 := by unfold cycE; rw [hv, if_pos rfl, if_neg hw]
  have hc : cycL g = girW g := by unfold cycL; rw [hv, if_pos rfl]
  have hW24 := girW_24 hrw hv
  have hen : tfiEn g z = some (.inl (.l0 (bstP g z (bstN (dsT g z) (girW g) 0)) (bstN (dsT g z) (girW g) 0) ((0 : Nat) : Int))) := by
    unfold tfiEn; rw [gu_t hrw, br_f e20, br_f (dec_f (by omega)), br_f (dec_f (by simp only [iN, hgl]; omega)), e0, br_f (by rfl)]; rfl
  have hbl : ∀ i, i ≤ (girW g).length → bstN (dsT g z) (girW g) i = -1 ∨ ∃ b : Nat, b < i ∧ bstN (dsT g z) (girW g) i = (b : Int) ∧ 0 ≤ dsT g z ((girW g).getD b 0) := fun i hi => by
    rcases bstN_spec (dsT g z) (girW g) i with ⟨e, _⟩ | ⟨b, hb, e, hd, _⟩
    · exact .inl e
    · exact .inr ⟨b, hb, e, hd⟩
  have hloop : ∀ r, MReach (tfiStep g z) (some (.inl (.l0 (bstP g z (bstN (dsT g z) (girW g) (girW g).length)) (bstN (dsT g z) (girW g) (girW g).length) ((girW g).length : Int)))) r → MReach (tfiStep g z) (tfiEn g z) r := by
    intro r hr
    rw [hen]
    refine loop_up (fun i => tfiPc.l0 (bstP g z (bstN (dsT g z) (girW g) i)) (bstN (dsT g z) (girW g) i) (i : Int)) (girW g).length (fun i hi h => ?_) hr
    refine .to (show tfiS0 g z _ _ i = _ from ?_) h
    have hx := girW_rg hrw hv hi
    have hd := dsT_bnd hrw hv h0 h1 hx.1 hx.2
    unfold tfiS0
    rw [hc, rngG 0 hi, gu_t (by simp only [iN]; omega), gu_t (by simp only [iN]; omega), gu_t hrw, gu_t hgl, hv, br_t rfl, gu_t ⟨h0, by simp only [iN]; exact h1⟩, gu_t ⟨hx.1, by simp only [iN]; exact hx.2⟩, wrap_nat i (by omega)]
    have hstep : bstN (dsT g z) (girW g) (i + 1) = bstF (dsT g z) (girW g) (bstN (dsT g z) (girW g) i) i := rfl
    rw [hstep]
    unfold bstF
    have take : bstP g z (i : Int) = pthL g z ((girW g).getD i 0) := by unfold bstP; rw [if_neg (by omega), Int.toNat_natCast]
    by_cases hp : 0 ≤ dsT g z ((girW g).getD i 0)
    · have hpl := pthL_len hp
      have hpi : iN (List.map (AV.int IntKind.i64) (pthL g z ((girW g).getD i 0))).length = dsT g z ((girW g).getD i 0) + 1 := by simp only [iN, List.length_map, hpl]; omega
      rw [hpi, br_t (dec_t (by omega))]
      rcases hbl i (by omega) with e | ⟨b, hb, e, hbd⟩
      · rw [e, br_t (by rfl), if_pos ⟨hp, .inl (by omega)⟩, take]
      · have hbl2 := pthL_len hbd
        have hbi : iN (List.map (AV.int IntKind.i64) (bstP g z (b : Int))).length = dsT g z ((girW g).getD b 0) + 1 := by unfold bstP; rw [if_neg (by omega), Int.toNat_natCast]; simp only [iN, List.length_map, hbl2]; omega
        rw [e, hbi, br_f (dec_f (by omega))]
        by_cases c1 : dsT g z ((girW g).getD i 0) < dsT g z ((girW g).getD b 0)
        · rw [br_t (dec_t (by omega)), if_pos ⟨hp, .inr (.inl (by rw [Int.toNat_natCast]; exact c1))⟩, take]
        · rw [br_f (dec_f (by omega))]
          by_cases c2 : dsT g z ((girW g).getD i 0) = dsT g z ((girW g).getD b 0)
          · rw [br_t (by rw [beq_iff_eq, c2]), gu_t (by omega), elG 0 (show b < (girW g).length by omega)]
            by_cases c3 : (girW g).getD i 0 < (girW g).getD b 0
            · rw [br_t (dec_t c3), if_pos ⟨hp, .inr (.inr ⟨by rw [Int.toNat_natCast]; exact c2, by rw [Int.toNat_natCast]; exact c3⟩)⟩, take]
            · rw [br_f (dec_f c3), if_neg (by rw [Int.toNat_natCast]; rintro ⟨_, h | h | h⟩ <;> omega)]
          · rw [br_f (by rw [beq_eq_false_iff_ne]; omega), if_neg (by rw [Int.toNat_natCast]; rintro ⟨_, h | h | h⟩ <;> omega)]
    · rw [pthL_nil (Int.not_le.1 hp), br_f (by rfl), if_neg (fun e => hp e.1)]
  rcases fill_way hrw hv h0 h1 with e | ⟨b, m, e, hH, hm, _⟩
  · rw [fillO_25 hv h0 h1 (by omega)]
    refine (tfi_ct g z ([], .tup [.nils, .int .i64 25]) (hloop _ ?_)).to rfl rfl
    rw [e]
    refine .to (show tfiS0 g z _ (-1) (girW g).length = _ from ?_) (.ret _)
    unfold tfiS0
    rw [hc, rngE, br_t (by rfl)]
  · rw [fillO_0 hv h0 h1 e]
    refine tfi_ct g z ([], _) (hloop _ ?_)
    rw [e]
    have hbW := hH.hb
    have hpm : 0 ≤ dsT g z ((girW g).getD b 0) := by rw [hH.hm]; omega
    have hbP : bstP g z (b : Int) = wkL g (distL g (opn g) ((girW g).getD b 0).toNat g.length) z.toNat (dsT g z ((girW g).getD b 0)).toNat := by
      unfold bstP pthL; rw [if_neg (by omega), Int.toNat_natCast, if_neg (by omega)]
    have hw1 : IntKind.i64.wrap ((b : Int) + 1) = ((b + 1 : Nat) : Int) := wrap_nat b (by omega)
    have hfl : [bstP g z (b : Int), List.take ((List.map (AV.int IntKind.i64) (girW g)).length - ((b + 1 : Nat) : Int).toNat) (List.drop ((b + 1 : Nat) : Int).toNat (girW g)), List.take ((b : Int).toNat - Int.toNat 0) (List.drop (Int.toNat 0) (girW g))].flatten = wayO g z (girW g) b := by
      rw [Int.toNat_natCast, Int.toNat_natCast, List.length_map, List.take_of_length_le (by rw [List.length_drop]; exact Nat.le_refl _), hbP]
      unfold wayO
      simp
    have hlen := hH.len
    have hrl : ∀ r ∈ [bstP g z (b : Int), List.take ((List.map (AV.int IntKind.i64) (girW g)).length - ((b + 1 : Nat) : Int).toNat) (List.drop ((b + 1 : Nat) : Int).toNat (girW g)), List.take ((b : Int).toNat - Int.toNat 0) (List.drop (Int.toNat 0) (girW g))], r.length ≤ 1000000 := fun r hr => by
      simp only [List.mem_cons, List.not_mem_nil, or_false] at hr
      rcases hr with rfl | rfl | rfl
      · rw [hbP, wkL_len, hH.hm]; omega
      · simp only [List.length_take, List.length_drop]; omega
      · simp only [List.length_take, List.length_drop]; omega
    refine .to (show tfiS0 g z _ (b : Int) (girW g).length = some (.inl (.l1 (wayO g z (girW g) b) [] 0)) from ?_) (tfi_walk hc hW24 (by omega) (by omega))
    unfold tfiS0
    rw [hc, rngE, br_f (dec_f (by omega)), gu_t (fun e he => by obtain ⟨x, _, rfl⟩ := List.mem_map.1 he; rfl), hw1, gu_t (by omega), gu_t (by simp only [iN, List.length_map]; omega), gu_t (by omega), gu_t (by simp only [iN, List.length_map]; omega), gu_t ⟨by simp, hrl⟩, hfl]
def kg3 : List (List Int) := [[1], [2], [0]]
def km3 : List MvD := [⟨0, -1, 0⟩, ⟨0, 0, 1⟩, ⟨0, 1, 2⟩, ⟨1, -1, 0⟩, ⟨1, 0, 1⟩, ⟨2, -1, 0⟩]
theorem kg3_rows : Rows kg3 := fun v hv => by
  match v, hv with
  | 0, _ => decide
  | 1, _ => decide
  | 2, _ => decide
theorem kg3_fre : freL kg3 [0, 1] [1, 2] = [1] := by decide +kernel
theorem kg3_freE : freE kg3 [0, 1] [1, 2] = 0 := by decide +kernel
theorem kg3_stk : stkB kg3 [0, 1, 2] [1, 2, 0] = true := by decide +kernel
theorem kg3_fill : fillO kg3 0 = (km3, 0) := by decide +kernel
theorem kg3_rep : repO kg3 km3 = ([2, 1, 0], 0) := by decide +kernel
theorem kfree_c : CT Try.prog 19 [] [.lst [.lst [.int .i64 1], .lst [.int .i64 2], .lst [.int .i64 0]], .lst [.int .i64 0, .int .i64 1], .lst [.int .i64 1, .int .i64 2]] [] (.tup [.lst [.int .i64 1], .int .i64 0]) := by
  have := tfree_c kg3 [0, 1] [1, 2] kg3_rows
  rw [kg3_fre, kg3_freE] at this
  exact this
theorem kfill_c : CT Try.prog 29 [] [.lst [.lst [.int .i64 1], .lst [.int .i64 2], .lst [.int .i64 0]], .int .i64 0] [] (.tup [.lst [.agg [.int .i64 0, .int .i64 (-1), .int .i64 0], .agg [.int .i64 0, .int .i64 0, .int .i64 1], .agg [.int .i64 0, .int .i64 1, .int .i64 2], .agg [.int .i64 1, .int .i64 (-1), .int .i64 0], .agg [.int .i64 1, .int .i64 0, .int .i64 1], .agg [.int .i64 2, .int .i64 (-1), .int .i64 0]], .int .i64 0]) := by
  have := tfill_c kg3 0 kg3_rows
  rw [kg3_fill] at this
  exact this
theorem krep_c : CT Try.prog 23 [] [.lst [.lst [.int .i64 1], .lst [.int .i64 2], .lst [.int .i64 0]], .lst [.agg [.int .i64 0, .int .i64 (-1), .int .i64 0], .agg [.int .i64 0, .int .i64 0, .int .i64 1], .agg [.int .i64 0, .int .i64 1, .int .i64 2], .agg [.int .i64 1, .int .i64 (-1), .int .i64 0], .agg [.int .i64 1, .int .i64 0, .int .i64 1], .agg [.int .i64 2, .int .i64 (-1), .int .i64 0]]]
    [some (Blk.mk [.int .i64 2, .int .i64 1, .int .i64 0] 1 true true none)] (.tup [.sl 0 0 3, .int .i64 0]) := by
  have := treplay_c kg3 km3 kg3_rows
  rw [kg3_rep] at this
  exact this
theorem kstk_c : CT Try.prog 20 [] [.lst [.lst [.int .i64 1], .lst [.int .i64 2], .lst [.int .i64 0]], .lst [.int .i64 0, .int .i64 1, .int .i64 2], .lst [.int .i64 1, .int .i64 2, .int .i64 0]] [] (.bool true) := by
  have := tst_c kg3 [0, 1, 2] [1, 2, 0] kg3_rows
  rw [kg3_stk] at this
  exact this
theorem ksin_c : CT Try.prog 25 [] [.lst [.int .i64 1], .lst [.int .i64 1]] [] (.bool true) := sameInts_ct [1] (by decide)
theorem ksin3_c : CT Try.prog 25 [] [.lst [.int .i64 2, .int .i64 1, .int .i64 0], .lst [.int .i64 2, .int .i64 1, .int .i64 0]] [] (.bool true) := sameInts_ct [2, 1, 0] (by decide)
end Go.Proofs.Yteohjokcoddnjaa
set_option maxHeartbeats 4000000
namespace Go.Proofs.Yteohjokcoddnjaa
noncomputable def knwSt : Empty → St
  | x => x.elim
def knwHd : Empty → Nat
  | x => x.elim
noncomputable def knwEn : Option (Empty ⊕ Ret) :=
  some (.inr ([], AV.bool true))
noncomputable def knwStep : Empty → Option (Empty ⊕ Ret)
  | x => x.elim
theorem knwEn_ok (o : Empty ⊕ Ret) (h : knwEn = some o) : Arr Try.prog Try.f15 0 (knwSt) knwHd (bodyOf Try.f15) [] { n := Try.f15.ntmps, fr := enumF 0 ([]), hp := ([]) } o :=
 Scr.ok h mix (
 have c0 := kfree_c;
 have c1 := kfill_c;
 have c2 := krep_c;
 have c3 := ksin_c;
 have c4 := ksin3_c;
 have c5 := kstk_c;
 .rt [] [(8, AV.lst []), (9, AV.lst []), (10, AV.lst []), (11, AV.lst []), (14, AV.lst []), (15, AV.lst []), (42, AV.lst []), (59, AV.lst []), (64, AV.lst []), (65, AV.lst [])] [(16, hK c0 [] []), (21, hK c1 [] []), (27, hK c2 [] []), (43, hK c3 [] []), (60, hK c4 [] [0]), (66, hK c5 [] [])] [] [] [] (aj (u2 (aj (k3 (aj t4 s2)) (aj (u2 (k2 (aj (ak (k5 (al (c0)))) (u2 (u2 (u2 (u2 s2))))))) (aj (u2 (aj (k3 (al (c1))) (u2 (u2 (u2 (u2 s2)))))) (aj (u2 (u2 (aj (ak (k3 (al (c2)))) (u2 (u2 (u2 (u2 s2))))))) (al (u2 (u2 (u2 (aj t3 (aj t3 (aj t3 (u2 (aj t3 (aj t3 (aj t3 (u2 (aj t3 (u2 (aj (k5 (al (c3))) (aj t3 (u2 (aj t3 (aj t3 (aj t3 (aj t3 (u2 (aj t3 (aj (k2 (show Int.NonNeg (1 : Int) from (by first | decide | exact Int.NonNeg.mk _))) (aj t3 (u2 (aj t4 (aj t3 (u2 (aj t3 (u2 (aj (k3 (aj (show nat_lit 3 = nat_lit 3 from rfl) (ak (aj (c4) (show ∀ (blk : Blk), blk ∈ [] → ImmB blk from (by intro _ h; cases h)))))) (aj t3 (u2 (aj t3 (u2 (u2 (aj (k2 (k5 (al (c5)))) (aj t3 s2)))))))))))))))))))))))))))))))))))))))))))) t2)) (by kernel_rfl)
theorem knw_ct (r : Ret) (h : MReach (knwStep) (knwEn) r) : CT Try.prog 15 ([]) ([]) r.1 r.2 :=
  CT.mach (fn := Try.f15) (c := bodyOf Try.f15) (S := knwSt) (hd := knwHd) Try.func15 (by kernel_rfl) (Nat.le_of_ble_eq_true rfl)
    (fun s o ho => match s, ho with
      | x, _ => x.elim)
    (fun o ho => knwEn_ok o ho) h
theorem known_c : CT Try.prog 15 [] [] [] (.bool true) := knw_ct ([], _) (.ret _)
inductive plaPc where
  | l0 (v0 : List (List Int)) (v1 : List Int) (v2 : List Int) (v3 : Int) (v4 : Nat)
noncomputable def plaSt (g : List (List Int)) (q w l : List Int) : plaPc → St
  | .l0 v0 v1 v2 v3 v4 => St.mk 108 [(0, AV.lst (List.map lI v0)), (1, AV.lst (List.map (iv) v1)), (2, AV.lst (List.map (iv) v2)), (9, AV.ptr 0 0 0), (10, iv v3)] [some (tapeB l v4)]
def plaHd : plaPc → Nat
  | .l0 _ _ _ _ _ => 0
noncomputable def plaEn (g : List (List Int)) (q w l : List Int) : Option (plaPc ⊕ Ret) :=
  some (.inl (.l0 (g) (q) (w) ((0 : Int)) (nat_lit 0)))
noncomputable def plaS0 (g : List (List Int)) (q w l : List Int) (v0 : List (List Int)) (v1 : List Int) (v2 : List Int) (v3 : Int) (v4 : Nat) : Option (plaPc ⊕ Ret) :=
  br (decide (v3 < 2))
  (br (v3 == 1)
   (gu (v4 ≤ 100000) <|
    gu (Rows (graM l v4 9)) <|
    br (valZ (graM l v4 9))
    (gu (graK l v4 9 ≤ 100000) <|
     br (!posB (graM l v4 9) (posQ l (graK l v4 9) (graM l v4 9) 9) (posW l (graK l v4 9) (graM l v4 9) 9) == posB (graM l v4 9) (posQ l (graK l v4 9) (graM l v4 9) 9) (posW l (graK l v4 9) (graM l v4 9) 9))
     (some (.inr ([], AV.bool false)))
     (br (!stkB (graM l v4 9) (posQ l (graK l v4 9) (graM l v4 9) 9) (posW l (graK l v4 9) (graM l v4 9) 9) == stkB (graM l v4 9) (posQ l (graK l v4 9) (graM l v4 9) 9) (posW l (graK l v4 9) (graM l v4 9) 9))
      (some (.inr ([], AV.bool false)))
      (br (freE (graM l v4 9) (posQ l (graK l v4 9) (graM l v4 9) 9) (posW l (graK l v4 9) (graM l v4 9) 9) != freE (graM l v4 9) (posQ l (graK l v4 9) (graM l v4 9) 9) (posW l (graK l v4 9) (graM l v4 9) 9))
       (some (.inr ([], AV.bool false)))
       (br (rinE (graM l v4 9) (posQ l (graK l v4 9) (graM l v4 9) 9) (posW l (graK l v4 9) (graM l v4 9) 9) != rinE (graM l v4 9) (posQ l (graK l v4 9) (graM l v4 9) 9) (posW l (graK l v4 9) (graM l v4 9) 9))
        (some (.inr ([], AV.bool false)))
        (gu ((freL (graM l v4 9) (posQ l (graK l v4 9) (graM l v4 9) 9) (posW l (graK l v4 9) (graM l v4 9) 9)).length ≤ 1000000) <|
         br (!decide (freL (graM l v4 9) (posQ l (graK l v4 9) (graM l v4 9) 9) (posW l (graK l v4 9) (graM l v4 9) 9) = freL (graM l v4 9) (posQ l (graK l v4 9) (graM l v4 9) 9) (posW l (graK l v4 9) (graM l v4 9) 9)))
         (some (.inr ([], AV.bool false)))
         (gu ((rinL (graM l v4 9) (posQ l (graK l v4 9) (graM l v4 9) 9) (posW l (graK l v4 9) (graM l v4 9) 9)).length ≤ 1000000) <|
          br (!decide (rinL (graM l v4 9) (posQ l (graK l v4 9) (graM l v4 9) 9) (posW l (graK l v4 9) (graM l v4 9) 9) = rinL (graM l v4 9) (posQ l (graK l v4 9) (graM l v4 9) 9) (posW l (graK l v4 9) (graM l v4 9) 9)))
          (some (.inr ([], AV.bool false)))
          (some (.inl (.l0 (graM l v4 9) (posQ l (graK l v4 9) (graM l v4 9) 9) (posW l (graK l v4 9) (graM l v4 9) 9) (IntKind.i64.wrap (v3 + 1)) (posK l (graK l v4 9) (graM l v4 9) 9))))))))))
    (none))
   (gu (Rows v0) <|
    br (!posB v0 v1 v2 == posB v0 v1 v2)
    (some (.inr ([], AV.bool false)))
    (br (!stkB v0 v1 v2 == stkB v0 v1 v2)
     (some (.inr ([], AV.bool false)))
     (br (freE v0 v1 v2 != freE v0 v1 v2)
      (some (.inr ([], AV.bool false)))
      (br (rinE v0 v1 v2 != rinE v0 v1 v2)
       (some (.inr ([], AV.bool false)))
       (gu ((freL v0 v1 v2).length ≤ 1000000) <|
        br (!decide (freL v0 v1 v2 = freL v0 v1 v2))
        (some (.inr ([], AV.bool false)))
        (gu ((rinL v0 v1 v2).length ≤ 1000000) <|
         br (!decide (rinL v0 v1 v2 = rinL v0 v1 v2))
         (some (.inr ([], AV.bool false)))
         (some (.inl (.l0 (v0) (v1) (v2) (IntKind.i64.wrap (v3 + 1)) (v4)))))))))))
  (some (.inr ([], AV.bool true)))
noncomputable def plaStep (g : List (List Int)) (q w l : List Int) : plaPc → Option (plaPc ⊕ Ret)
  | .l0 v0 v1 v2 v3 v4 => plaS0 g q w l v0 v1 v2 v3 v4
theorem plaEn_ok (g : List (List Int)) (q w l : List Int) (o : plaPc ⊕ Ret) (h : plaEn g q w l = some o) : Arr Try.prog Try.f8 0 (plaSt g q w l) plaHd (bodyOf Try.f8) [] { n := Try.f8.ntmps, fr := enumF 0 ([.lst (gL g), lI q, lI w, lI l]), hp := ([]) } o :=
 Scr.ok h mix (
 have c0 := known_c;
 .lp [] [] [(19, hK c0 [] [])] [] [] [0] [0, 1, 2, 9, 10] (aj (u2 (aj (aj (al (c0)) s2) (ak (aj (u2 (u2 (u2 s2))) s2)))) t7)) (by kernel_rfl)
theorem plaS0_ok (g : List (List Int)) (q w l : List Int) (v0 : List (List Int)) (v1 : List Int) (v2 : List Int) (v3 : Int) (v4 : Nat) (o : plaPc ⊕ Ret) (h : plaS0 g q w l v0 v1 v2 v3 v4 = some o) : Arr Try.prog Try.f8 0 (plaSt g q w l) plaHd (headC Try.f8 0) (.rnd (headC Try.f8 0) :: headK Try.f8 0) (plaSt g q w l (.l0 v0 v1 v2 v3 v4)) o :=
 Scr.ok h mix (
 .rn 0 [] [] [] [] (al (u2 s2)) <|
 .br (fun a0 =>
 .rn 0 [51] [] [] [] (aj a0 (al (u2 s2))) <|
 .br (fun a1 =>
  .gu fun a2 =>
  have c0 := graph_c (l) (v4) (9) a2 (show (0 : Int) ≤ (9 : Int) ∧ (9 : Int) ≤ (20 : Int) from ⟨(by first | exact Nat.le_of_ble_eq_true rfl | decide), (by first | exact Nat.le_of_ble_eq_true rfl | decide)⟩);
  .rn 0 [59] [] [(31, hK c0 [0] [])] [] (aj a1 (al (u2 (aj (ak (k3 (al (c0)))) s2)))) <|
  .gu fun a3 =>
  .br (fun a4 =>
  .gu fun a5 =>
  have c1 := pos_c (l) (graK l v4 9) (graM l v4 9) (9) a3 a4 a5 (show (0 : Int) ≤ (9 : Int) ∧ (9 : Int) ≤ (20 : Int) from ⟨(by first | exact Nat.le_of_ble_eq_true rfl | decide), (by first | exact Nat.le_of_ble_eq_true rfl | decide)⟩);
  have c2 := tfree_c (graM l v4 9) (posQ l (graK l v4 9) (graM l v4 9) 9) (posW l (graK l v4 9) (graM l v4 9) 9) a3;
  have c3 := rfree_c (graM l v4 9) (posQ l (graK l v4 9) (graM l v4 9) 9) (posW l (graK l v4 9) (graM l v4 9) 9) a3;
  have c4 := tring_c (graM l v4 9) (posQ l (graK l v4 9) (graM l v4 9) 9) (posW l (graK l v4 9) (graM l v4 9) 9) a3;
  have c5 := rring_c (graM l v4 9) (posQ l (graK l v4 9) (graM l v4 9) 9) (posW l (graK l v4 9) (graM l v4 9) 9) a3;
  .rn 4 [] [] [(35, hK c1 [0] []), (42, hK c2 [] []), (49, hK c3 [] []), (56, hK c4 [] []), (63, hK c5 [] [])] [] (aj (u2 (u2 (aj (ak (k5 (al (c1)))) (u2 (u2 (u2 (u2 s2))))))) (aj (u2 (u2 (u2 (aj (ak (k5 (al (c2)))) (u2 (u2 (u2 (u2 s2)))))))) (aj (u2 (u2 (u2 (aj (ak (k5 (al (c3)))) (u2 (u2 (u2 (u2 s2)))))))) (aj (u2 (u2 (u2 (aj (ak (k5 (al (c4)))) (u2 (u2 (u2 (u2 s2)))))))) (al (u2 (u2 (u2 (aj (ak (k5 (al (c5)))) (u2 (u2 (u2 (u2 s2))))))))))))) <|
  .br (fun a6 =>
   have c6 := tvd_c (graM l v4 9) (posQ l (graK l v4 9) (graM l v4 9) 9) (posW l (graK l v4 9) (graM l v4 9) 9) a3;
   have c7 := rvd_c (graM l v4 9) (posQ l (graK l v4 9) (graM l v4 9) 9) (posW l (graK l v4 9) (graM l v4 9) 9) a3;
   .rt [151] [] [(69, hK c6 [] []), (73, hK c7 [] [])] [] [] [] (aj (aj (u2 (u2 (u2 (aj (ak (k5 (al (c6)))) (u2 (u2 (u2 (aj (ak (k5 (al (c7)))) (aj t3 (u2 (aj a6 (aj a6 (aj a6 (aj a6 (aj a6 (aj a6 (aj a6 (aj a6 (aj a6 (ag a6 (u2 (k3 (aj t3 (u2 (k3 (aj t3 (u2 (ak (k3 (aj t3 (u2 (ak (k3 (al t3)))))))))))))))))))))))))))))))))) (ak s2)) t2))
  (fun a6 =>
   .br (fun a7 =>
   have c6 := tvd_c (graM l v4 9) (posQ l (graK l v4 9) (graM l v4 9) 9) (posW l (graK l v4 9) (graM l v4 9) 9) a3;
   have c7 := rvd_c (graM l v4 9) (posQ l (graK l v4 9) (graM l v4 9) 9) (posW l (graK l v4 9) (graM l v4 9) 9) a3;
   have c8 := tst_c (graM l v4 9) (posQ l (graK l v4 9) (graM l v4 9) 9) (posW l (graK l v4 9) (graM l v4 9) 9) a3;
   have c9 := rst_c (graM l v4 9) (posQ l (graK l v4 9) (graM l v4 9) 9) (posW l (graK l v4 9) (graM l v4 9) 9) a3;
   .rt [150, 173] [] [(69, hK c6 [] []), (73, hK c7 [] []), (79, hK c8 [] []), (83, hK c9 [] [])] [] [] [] (aj (aj (u2 (u2 (u2 (aj (ak (k5 (al (c6)))) (u2 (u2 (u2 (aj (ak (k5 (al (c7)))) (aj t3 (u2 (ag a6 (ag a6 (ag a6 (aj (aj a6 (ak (k5 (al (c8))))) (ag a6 (ag a6 (ag a6 (aj (aj a6 (ak (k5 (al (c9))))) (aj (aj a6 t3) (ag a6 (u2 (aj a7 (aj a7 (aj a7 (ag a7 (u2 (k3 (aj t3 (u2 (ak (k3 (aj t3 (u2 (ak (k3 (al t3)))))))))))))))))))))))))))))))))))) (ak s2)) t2))
   (fun a7 =>
   .br (fun a8 =>
    have c6 := tvd_c (graM l v4 9) (posQ l (graK l v4 9) (graM l v4 9) 9) (posW l (graK l v4 9) (graM l v4 9) 9) a3;
    have c7 := rvd_c (graM l v4 9) (posQ l (graK l v4 9) (graM l v4 9) 9) (posW l (graK l v4 9) (graM l v4 9) 9) a3;
    have c8 := tst_c (graM l v4 9) (posQ l (graK l v4 9) (graM l v4 9) 9) (posW l (graK l v4 9) (graM l v4 9) 9) a3;
    have c9 := rst_c (graM l v4 9) (posQ l (graK l v4 9) (graM l v4 9) 9) (posW l (graK l v4 9) (graM l v4 9) 9) a3;
    .rt [150, 172, 183] [] [(69, hK c6 [] []), (73, hK c7 [] []), (79, hK c8 [] []), (83, hK c9 [] [])] [] [] [] (aj (aj (u2 (u2 (u2 (aj (ak (k5 (al (c6)))) (u2 (u2 (u2 (aj (ak (k5 (al (c7)))) (aj t3 (u2 (ag a6 (ag a6 (ag a6 (aj (aj a6 (ak (k5 (al (c8))))) (ag a6 (ag a6 (ag a6 (aj (aj a6 (ak (k5 (al (c9))))) (aj (aj a6 t3) (ag a6 (u2 (ag a7 (ag a7 (aj (aj a7 t3) (ag a7 (u2 (aj a8 (aj a8 (aj a8 (ag a8 (u2 (ak (k3 (aj t3 (u2 (ak (k3 (al t3)))))))))))))))))))))))))))))))))))))) (ak s2)) t2))
   (fun a8 =>
    .br (fun a9 =>
    have c6 := tvd_c (graM l v4 9) (posQ l (graK l v4 9) (graM l v4 9) 9) (posW l (graK l v4 9) (graM l v4 9) 9) a3;
    have c7 := rvd_c (graM l v4 9) (posQ l (graK l v4 9) (graM l v4 9) 9) (posW l (graK l v4 9) (graM l v4 9) 9) a3;
    have c8 := tst_c (graM l v4 9) (posQ l (graK l v4 9) (graM l v4 9) 9) (posW l (graK l v4 9) (graM l v4 9) 9) a3;
    have c9 := rst_c (graM l v4 9) (posQ l (graK l v4 9) (graM l v4 9) 9) (posW l (graK l v4 9) (graM l v4 9) 9) a3;
    .rt [150, 172, 182, 193] [] [(69, hK c6 [] []), (73, hK c7 [] []), (79, hK c8 [] []), (83, hK c9 [] [])] [] [] [] (aj (aj (u2 (u2 (u2 (aj (ak (k5 (al (c6)))) (u2 (u2 (u2 (aj (ak (k5 (al (c7)))) (aj t3 (u2 (ag a6 (ag a6 (ag a6 (aj (aj a6 (ak (k5 (al (c8))))) (ag a6 (ag a6 (ag a6 (aj (aj a6 (ak (k5 (al (c9))))) (aj (aj a6 t3) (ag a6 (u2 (ag a7 (ag a7 (aj (aj a7 t3) (ag a7 (u2 (ag a8 (ag a8 (aj (aj a8 t3) (ag a8 (u2 (aj a9 (aj a9 (aj a9 (aj a9 (ag a9 (u2 (ak (k3 (al t3)))))))))))))))))))))))))))))))))))))))) (ak s2)) t2))
    (fun a9 =>
    .gu fun a10 =>
    .br (fun a11 =>
     have c6 := tvd_c (graM l v4 9) (posQ l (graK l v4 9) (graM l v4 9) 9) (posW l (graK l v4 9) (graM l v4 9) 9) a3;
     have c7 := rvd_c (graM l v4 9) (posQ l (graK l v4 9) (graM l v4 9) 9) (posW l (graK l v4 9) (graM l v4 9) 9) a3;
     have c8 := tst_c (graM l v4 9) (posQ l (graK l v4 9) (graM l v4 9) 9) (posW l (graK l v4 9) (graM l v4 9) 9) a3;
     have c9 := rst_c (graM l v4 9) (posQ l (graK l v4 9) (graM l v4 9) 9) (posW l (graK l v4 9) (graM l v4 9) 9) a3;
     have c10 := sin_c (freL (graM l v4 9) (posQ l (graK l v4 9) (graM l v4 9) 9) (posW l (graK l v4 9) (graM l v4 9) 9)) (freL (graM l v4 9) (posQ l (graK l v4 9) (graM l v4 9) 9) (posW l (graK l v4 9) (graM l v4 9) 9)) a10;
     .rt [150, 172, 182, 192, 205] [] [(69, hK c6 [] []), (73, hK c7 [] []), (79, hK c8 [] []), (83, hK c9 [] []), (99, hK c10 [] [])] [] [] [] (aj (aj (u2 (u2 (u2 (aj (ak (k5 (al (c6)))) (u2 (u2 (u2 (aj (ak (k5 (al (c7)))) (aj t3 (u2 (ag a6 (ag a6 (ag a6 (aj (aj a6 (ak (k5 (al (c8))))) (ag a6 (ag a6 (ag a6 (aj (aj a6 (ak (k5 (al (c9))))) (aj (aj a6 t3) (ag a6 (u2 (ag a7 (ag a7 (aj (aj a7 t3) (ag a7 (u2 (ag a8 (ag a8 (aj (aj a8 t3) (ag a8 (u2 (ag a9 (ag a9 (aj (aj a9 (ak (k3 (al (c10))))) (ag a9 (ag a9 (u2 (aj a11 (aj a11 (aj a11 (aj a11 (al (aj a11 t2))))))))))))))))))))))))))))))))))))))))))) (ak s2)) t2))
    (fun a11 =>
     .gu fun a12 =>
     have c6 := tvd_c (graM l v4 9) (posQ l (graK l v4 9) (graM l v4 9) 9) (posW l (graK l v4 9) (graM l v4 9) 9) a3;
     have c7 := rvd_c (graM l v4 9) (posQ l (graK l v4 9) (graM l v4 9) 9) (posW l (graK l v4 9) (graM l v4 9) 9) a3;
     have c8 := tst_c (graM l v4 9) (posQ l (graK l v4 9) (graM l v4 9) 9) (posW l (graK l v4 9) (graM l v4 9) 9) a3;
     have c9 := rst_c (graM l v4 9) (posQ l (graK l v4 9) (graM l v4 9) 9) (posW l (graK l v4 9) (graM l v4 9) 9) a3;
     have c10 := sin_c (freL (graM l v4 9) (posQ l (graK l v4 9) (graM l v4 9) 9) (posW l (graK l v4 9) (graM l v4 9) 9)) (freL (graM l v4 9) (posQ l (graK l v4 9) (graM l v4 9) 9) (posW l (graK l v4 9) (graM l v4 9) 9)) a10;
     have c11 := sin_c (rinL (graM l v4 9) (posQ l (graK l v4 9) (graM l v4 9) 9) (posW l (graK l v4 9) (graM l v4 9) 9)) (rinL (graM l v4 9) (posQ l (graK l v4 9) (graM l v4 9) 9) (posW l (graK l v4 9) (graM l v4 9) 9)) a12;
     .rn 0 [150, 172, 182, 192, 204] [] [(69, hK c6 [] []), (73, hK c7 [] []), (79, hK c8 [] []), (83, hK c9 [] []), (99, hK c10 [] []), (105, hK c11 [] [])] [] (al (u2 (u2 (u2 (aj (ak (k5 (al (c6)))) (u2 (u2 (u2 (aj (ak (k5 (al (c7)))) (aj t3 (u2 (ag a6 (ag a6 (ag a6 (aj (aj a6 (ak (k5 (al (c8))))) (ag a6 (ag a6 (ag a6 (aj (aj a6 (ak (k5 (al (c9))))) (aj (aj a6 t3) (ag a6 (u2 (ag a7 (ag a7 (aj (aj a7 t3) (ag a7 (u2 (ag a8 (ag a8 (aj (aj a8 t3) (ag a8 (u2 (ag a9 (ag a9 (aj (aj a9 (ak (k3 (al (c10))))) (ag a9 (ag a9 (u2 (ag a11 (ag a11 (aj (aj a11 (ak (k3 (al (c11))))) (ag a11 (al (aj a11 t2)))))))))))))))))))))))))))))))))))))))))))) <|
     .br (fun a13 =>
     .rt [150, 172, 182, 192, 204, 215] [] [] [] [] [] (aj (aj a13 s2) t2))
     (fun a13 =>
     .lp [150, 172, 182, 192, 204, 214] [] [] [] [] [0] [0, 1, 2, 9, 10] (aj (aj a13 (al (u2 (u2 s2)))) t7))))))))
  (fun a4 =>
  .no))
 (fun a1 =>
  .gu fun a2 =>
  have c0 := tfree_c (v0) (v1) (v2) a2;
  have c1 := rfree_c (v0) (v1) (v2) a2;
  have c2 := tring_c (v0) (v1) (v2) a2;
  have c3 := rring_c (v0) (v1) (v2) a2;
  .rn 3 [58] [] [(42, hK c0 [] []), (49, hK c1 [] []), (56, hK c2 [] []), (63, hK c3 [] [])] [] (aj a1 (aj (u2 (u2 (u2 (aj (ak (k5 (al (c0)))) (u2 (u2 (u2 (u2 s2)))))))) (aj (u2 (u2 (u2 (aj (ak (k5 (al (c1)))) (u2 (u2 (u2 (u2 s2)))))))) (aj (u2 (u2 (u2 (aj (ak (k5 (al (c2)))) (u2 (u2 (u2 (u2 s2)))))))) (al (u2 (u2 (u2 (aj (ak (k5 (al (c3)))) (u2 (u2 (u2 (u2 s2))))))))))))) <|
  .br (fun a3 =>
  have c4 := tvd_c (v0) (v1) (v2) a2;
  have c5 := rvd_c (v0) (v1) (v2) a2;
  .rt [151] [] [(69, hK c4 [] []), (73, hK c5 [] [])] [] [] [] (aj (aj (u2 (u2 (u2 (aj (ak (k5 (al (c4)))) (u2 (u2 (u2 (aj (ak (k5 (al (c5)))) (aj t3 (u2 (aj a3 (aj a3 (aj a3 (aj a3 (aj a3 (aj a3 (aj a3 (aj a3 (aj a3 (ag a3 (u2 (k3 (aj t3 (u2 (k3 (aj t3 (u2 (ak (k3 (aj t3 (u2 (ak (k3 (al t3)))))))))))))))))))))))))))))))))) (ak s2)) t2))
  (fun a3 =>
  .br (fun a4 =>
   have c4 := tvd_c (v0) (v1) (v2) a2;
   have c5 := rvd_c (v0) (v1) (v2) a2;
   have c6 := tst_c (v0) (v1) (v2) a2;
   have c7 := rst_c (v0) (v1) (v2) a2;
   .rt [150, 173] [] [(69, hK c4 [] []), (73, hK c5 [] []), (79, hK c6 [] []), (83, hK c7 [] [])] [] [] [] (aj (aj (u2 (u2 (u2 (aj (ak (k5 (al (c4)))) (u2 (u2 (u2 (aj (ak (k5 (al (c5)))) (aj t3 (u2 (ag a3 (ag a3 (ag a3 (aj (aj a3 (ak (k5 (al (c6))))) (ag a3 (ag a3 (ag a3 (aj (aj a3 (ak (k5 (al (c7))))) (aj (aj a3 t3) (ag a3 (u2 (aj a4 (aj a4 (aj a4 (ag a4 (u2 (k3 (aj t3 (u2 (ak (k3 (aj t3 (u2 (ak (k3 (al t3)))))))))))))))))))))))))))))))))))) (ak s2)) t2))
  (fun a4 =>
   .br (fun a5 =>
   have c4 := tvd_c (v0) (v1) (v2) a2;
   have c5 := rvd_c (v0) (v1) (v2) a2;
   have c6 := tst_c (v0) (v1) (v2) a2;
   have c7 := rst_c (v0) (v1) (v2) a2;
   .rt [150, 172, 183] [] [(69, hK c4 [] []), (73, hK c5 [] []), (79, hK c6 [] []), (83, hK c7 [] [])] [] [] [] (aj (aj (u2 (u2 (u2 (aj (ak (k5 (al (c4)))) (u2 (u2 (u2 (aj (ak (k5 (al (c5)))) (aj t3 (u2 (ag a3 (ag a3 (ag a3 (aj (aj a3 (ak (k5 (al (c6))))) (ag a3 (ag a3 (ag a3 (aj (aj a3 (ak (k5 (al (c7))))) (aj (aj a3 t3) (ag a3 (u2 (ag a4 (ag a4 (aj (aj a4 t3) (ag a4 (u2 (aj a5 (aj a5 (aj a5 (ag a5 (u2 (ak (k3 (aj t3 (u2 (ak (k3 (al t3)))))))))))))))))))))))))))))))))))))) (ak s2)) t2))
   (fun a5 =>
   .br (fun a6 =>
    have c4 := tvd_c (v0) (v1) (v2) a2;
    have c5 := rvd_c (v0) (v1) (v2) a2;
    have c6 := tst_c (v0) (v1) (v2) a2;
    have c7 := rst_c (v0) (v1) (v2) a2;
    .rt [150, 172, 182, 193] [] [(69, hK c4 [] []), (73, hK c5 [] []), (79, hK c6 [] []), (83, hK c7 [] [])] [] [] [] (aj (aj (u2 (u2 (u2 (aj (ak (k5 (al (c4)))) (u2 (u2 (u2 (aj (ak (k5 (al (c5)))) (aj t3 (u2 (ag a3 (ag a3 (ag a3 (aj (aj a3 (ak (k5 (al (c6))))) (ag a3 (ag a3 (ag a3 (aj (aj a3 (ak (k5 (al (c7))))) (aj (aj a3 t3) (ag a3 (u2 (ag a4 (ag a4 (aj (aj a4 t3) (ag a4 (u2 (ag a5 (ag a5 (aj (aj a5 t3) (ag a5 (u2 (aj a6 (aj a6 (aj a6 (aj a6 (ag a6 (u2 (ak (k3 (al t3)))))))))))))))))))))))))))))))))))))))) (ak s2)) t2))
   (fun a6 =>
    .gu fun a7 =>
    .br (fun a8 =>
    have c4 := tvd_c (v0) (v1) (v2) a2;
    have c5 := rvd_c (v0) (v1) (v2) a2;
    have c6 := tst_c (v0) (v1) (v2) a2;
    have c7 := rst_c (v0) (v1) (v2) a2;
    have c8 := sin_c (freL v0 v1 v2) (freL v0 v1 v2) a7;
    .rt [150, 172, 182, 192, 205] [] [(69, hK c4 [] []), (73, hK c5 [] []), (79, hK c6 [] []), (83, hK c7 [] []), (99, hK c8 [] [])] [] [] [] (aj (aj (u2 (u2 (u2 (aj (ak (k5 (al (c4)))) (u2 (u2 (u2 (aj (ak (k5 (al (c5)))) (aj t3 (u2 (ag a3 (ag a3 (ag a3 (aj (aj a3 (ak (k5 (al (c6))))) (ag a3 (ag a3 (ag a3 (aj (aj a3 (ak (k5 (al (c7))))) (aj (aj a3 t3) (ag a3 (u2 (ag a4 (ag a4 (aj (aj a4 t3) (ag a4 (u2 (ag a5 (ag a5 (aj (aj a5 t3) (ag a5 (u2 (ag a6 (ag a6 (aj (aj a6 (ak (k3 (al (c8))))) (ag a6 (ag a6 (u2 (aj a8 (aj a8 (aj a8 (aj a8 (al (aj a8 t2))))))))))))))))))))))))))))))))))))))))))) (ak s2)) t2))
    (fun a8 =>
    .gu fun a9 =>
    have c4 := tvd_c (v0) (v1) (v2) a2;
    have c5 := rvd_c (v0) (v1) (v2) a2;
    have c6 := tst_c (v0) (v1) (v2) a2;
    have c7 := rst_c (v0) (v1) (v2) a2;
    have c8 := sin_c (freL v0 v1 v2) (freL v0 v1 v2) a7;
    have c9 := sin_c (rinL v0 v1 v2) (rinL v0 v1 v2) a9;
    .rn 0 [150, 172, 182, 192, 204] [] [(69, hK c4 [] []), (73, hK c5 [] []), (79, hK c6 [] []), (83, hK c7 [] []), (99, hK c8 [] []), (105, hK c9 [] [])] [] (al (u2 (u2 (u2 (aj (ak (k5 (al (c4)))) (u2 (u2 (u2 (aj (ak (k5 (al (c5)))) (aj t3 (u2 (ag a3 (ag a3 (ag a3 (aj (aj a3 (ak (k5 (al (c6))))) (ag a3 (ag a3 (ag a3 (aj (aj a3 (ak (k5 (al (c7))))) (aj (aj a3 t3) (ag a3 (u2 (ag a4 (ag a4 (aj (aj a4 t3) (ag a4 (u2 (ag a5 (ag a5 (aj (aj a5 t3) (ag a5 (u2 (ag a6 (ag a6 (aj (aj a6 (ak (k3 (al (c8))))) (ag a6 (ag a6 (u2 (ag a8 (ag a8 (aj (aj a8 (ak (k3 (al (c9))))) (ag a8 (al (aj a8 t2)))))))))))))))))))))))))))))))))))))))))))) <|
    .br (fun a10 =>
     .rt [150, 172, 182, 192, 204, 215] [] [] [] [] [] (aj (aj a10 s2) t2))
    (fun a10 =>
     .lp [150, 172, 182, 192, 204, 214] [] [] [] [] [0] [0, 1, 2, 9, 10] (aj (aj a10 (al (u2 (u2 s2)))) t7)))))))))
 (fun a0 =>
 .rt [50] [] [] [] [] [] (aj (aj a0 s2) t2))) (by kernel_rfl)
theorem pla_ct (g : List (List Int)) (q w l : List Int) (r : Ret) (h : MReach (plaStep g q w l) (plaEn g q w l) r) : CT Try.prog 8 ([]) ([.lst (gL g), lI q, lI w, lI l]) r.1 r.2 :=
  CT.mach (fn := Try.f8) (c := bodyOf Try.f8) (S := plaSt g q w l) (hd := plaHd) Try.func8 (by kernel_rfl) (Nat.le_of_ble_eq_true rfl)
    (fun s o ho => match s, ho with
      | .l0 v0 v1 v2 v3 v4, ho => plaS0_ok g q w l v0 v1 v2 v3 v4 o ho
    )
    (fun o ho => plaEn_ok g q w l o ho) h
theorem rdIntsT {n : Nat} {es : List AV} (h : ∀ x ∈ es, ShV Try.prog n 3 x) : ∃ L : List Int, es = L.map (AV.int .i64) := by
  induction es with
  | nil => exact ⟨[], rfl⟩
  | cons x es ih =>
    obtain ⟨L, rfl⟩ := ih fun y hy => h y (List.mem_cons_of_mem _ hy)
    obtain ⟨i, _, rfl⟩ := (h x (by simp)).intD Try.underlying3
    exact ⟨i :: L, rfl⟩
theorem rdRowsT {n : Nat} {es : List AV} (h : ∀ x ∈ es, ShV Try.prog (n + 1) 22 x) : ∃ g : List (List Int), es = gL g ∧ Rows g := by
  have key : ∃ g : List (List Int), es = gL g ∧ ∀ r ∈ g, r.length ≤ 9223372036854775807 := by
    induction es with
    | nil => exact ⟨[], rfl, fun r hr => by cases hr⟩
    | cons x es ih =>
      obtain ⟨g, rfl, hg⟩ := ih fun y hy => h y (List.mem_cons_of_mem _ hy)
      obtain ⟨ls, hm, hl, rfl⟩ := (h x (by simp)).sliceD Try.underlying22
      obtain ⟨L, rfl⟩ := rdIntsT hl
      refine ⟨L :: g, rfl, fun r hr => ?_⟩
      rcases List.mem_cons.1 hr with rfl | hr
      · simpa [maxLen] using hm
      · exact hg r hr
  obtain ⟨g, e, hg⟩ := key
  refine ⟨g, e, fun v hv => hg _ ?_⟩
  rw [List.getD_eq_getElem?_getD, List.getElem?_eq_getElem hv]
  exact List.getElem_mem hv
theorem ringF_len (q w : List Int) : ∀ (n : Nat) (sn : List Int) (i : Int) (r : List Int), ringF q w n sn i = some r → r.length ≤ sn.length + n := by
  intro n
  induction n with
  | zero => intro sn i r h; cases h
  | succ n ih =>
    intro sn i r h
    unfold ringF at h
    split at h
    · cases h; rw [List.length_drop]; omega
    · split at h
      · cases h
      · have := ih _ _ _ h
        rw [List.length_append, List.length_singleton] at this
        omega
theorem ringO_len {q w r : List Int} (h : ringO q w = some r) : r.length ≤ q.length + 1 := by
  unfold ringO at h
  split at h
  · cases h
  · obtain ⟨r', h1, rfl⟩ := Option.map_eq_some_iff.1 h
    have := ringF_len q w _ _ _ _ h1
    rw [rotM_len]
    simpa using this
theorem rinL_len (g : List (List Int)) (q w : List Int) : (rinL g q w).length ≤ 1000000 := by
  unfold rinL
  split
  · rename_i hp
    have hc := (posB_iff.1 hp).cap
    cases h : ringO q w with
    | none => simp
    | some r => have := ringO_len h; show r.length ≤ _; omega
  · simp
theorem freL_len (g : List (List Int)) (q w : List Int) : (freL g q w).length ≤ 1000000 := by
  unfold freL
  split
  · rename_i hp
    have hP := posB_iff.1 hp
    have hc := hP.cap
    have hl := hP.len
    have := frT_len q w w.length
    unfold frT; omega
  · simp
theorem nbb (b : Bool) : (!b == b) = false := by cases b <;> rfl
theorem pla_run (g : List (List Int)) (hrw : Rows g) (q w l : List Int) : CT Try.prog 8 [] [.lst (gL g), lI q, lI w, lI l] [] (.bool true) := by
  refine pla_ct g q w l ([], .bool true) ?_
  obtain ⟨g1, g2, g3, g4, _⟩ := gra_spec (L := l) (kk := 0) (most := 9) (by omega) (by omega)
  unfold plaEn
  refine .to (y := some (.inl (plaPc.l0 g q w 1 0))) ?_ (.to (y := some (.inl (plaPc.l0 (graM l 0 9) (posQ l (graK l 0 9) (graM l 0 9) 9) (posW l (graK l 0 9) (graM l 0 9) 9) 2 (posK l (graK l 0 9) (graM l 0 9) 9)))) ?_ (.to (y := some (.inr ([], .bool true))) ?_ (.ret _)))
  · show plaS0 g q w l g q w 0 0 = _
    unfold plaS0
    rw [br_t (by rfl), br_f (by rfl), gu_t hrw, br_f (nbb _), br_f (nbb _), br_f (bne_self_eq_false _), br_f (bne_self_eq_false _), gu_t (freL_len _ _ _), br_f (by simp), gu_t (rinL_len _ _ _), br_f (by simp)]
    rfl
  · show plaS0 g q w l g q w 1 0 = _
    unfold plaS0
    rw [br_t (by rfl), br_t (by rfl), gu_t (by omega), gu_t g2, br_t g1, gu_t (by omega), br_f (nbb _), br_f (nbb _), br_f (bne_self_eq_false _), br_f (bne_self_eq_false _), gu_t (freL_len _ _ _), br_f (by simp), gu_t (rinL_len _ _ _), br_f (by simp)]
    rfl
  · show plaS0 g q w l _ _ _ 2 _ = _
    unfold plaS0
    rw [br_f (by rfl)]
theorem tokenPlays_row (avs : List AV) (h : ShVs Try.prog 6 Try.f8.params.toList avs) : CT Try.prog 8 [] avs [] (.bool true) := by
  rw [Try.params8] at h
  obtain ⟨a, _, rfl, ka, h⟩ := h.consD
  obtain ⟨b, _, rfl, kb, h⟩ := h.consD
  obtain ⟨c, _, rfl, kc, h⟩ := h.consD
  obtain ⟨d, _, rfl, kd, h⟩ := h.consD
  obtain rfl := h.nilD
  obtain ⟨_, _, ha, rfl⟩ := ka.sliceD Try.underlying27
  obtain ⟨g, rfl, hrw⟩ := rdRowsT ha
  obtain ⟨_, _, hb, rfl⟩ := kb.sliceD Try.underlying22
  obtain ⟨q, rfl⟩ := rdIntsT hb
  obtain ⟨_, _, hc, rfl⟩ := kc.sliceD Try.underlying22
  obtain ⟨w, rfl⟩ := rdIntsT hc
  obtain ⟨_, _, hd, rfl⟩ := kd.sliceD Try.underlying22
  obtain ⟨l, rfl⟩ := rdIntsT hd
  exact pla_run g hrw q w l
end Go.Proofs.Yteohjokcoddnjaa

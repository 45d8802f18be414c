/- Parts of the proof: St10m, StI, StK. -/
import Derived.Test.YtepomnooippjpaaProg
import Derived.KernelRfl
import Derived.Test.YtepomnooippjpaaStationsFullM6
open Go Go.AX Go.Proofs
set_option maxRecDepth 100000
set_option maxHeartbeats 4000000
set_option linter.unusedVariables false
set_option linter.unusedSimpArgs false
namespace Go.Proofs.Ytepomnooippjpaa
end Go.Proofs.Ytepomnooippjpaa
namespace Go.Proofs.Ytepomnooippjpaa
theorem robot_out {n : NetD} (hv : ValidN n) {r : Int} (hr : n.rs[0]? = some r) {i : Nat} {s : SpuD} (hs : n.ss[i]? = some s) (hd : s.dep = false) : inP r s = false := by
  obtain ⟨t, hm, h1⟩ := (hv.rob 0 r hr).1
  obtain ⟨j, hj⟩ := List.getElem?_of_mem (List.mem_of_mem_take hm)
  have hin : inP r t = true := by unfold inP; rw [dec_t h1.2.1, dec_t h1.2.2]; rfl
  have e1 := plI_spur (c := r) hv hj
  have e2 := plI_spur (c := r) hv hs
  rw [hin] at e1
  have e3 : plI n r = (j : Int) := by simpa using e1
  rw [← e2, e3]
  by_cases hij : j = i
  · subst hij; rw [hj] at hs; cases hs; rw [h1.1] at hd; cases hd
  · simp; omega
theorem full_tcx {n : NetD} {U : List UnD} {T : List TkD} (hm : MadI n U T) {i : Nat} {s : SpuD} (hs : n.ss[i]? = some s) (a b : TkD) : U.filter (tcx n (T ++ [a]) i) = U.filter (tcx n (T ++ [b]) i) := by
  apply List.filter_congr
  intro x hx
  have hu := hm.uu x hx
  unfold tcx
  rw [tkP_at hs, tkP_at hs]
  unfold tkB
  by_cases h0 : 0 ≤ x.tk
  · have hlt : x.tk.toNat < T.length := by unfold consU at hu; simp at hu; omega
    rw [List.getElem?_append_left hlt, List.getElem?_append_left hlt]
  · rw [dec_f h0]; rfl
theorem full_cnt {n : NetD} (hv : ValidN n) {U : List UnD} {T : List TkD} (hm : MadI n U T) {r : Int} (hr : n.rs[0]? = some r) {i : Nat} {s : SpuD} (hs : n.ss[i]? = some s) (hd : s.dep = false) :
    tcn n (U ++ [UnD.mk 1 false 0 r (-1) 0 false false T.length 1 [] 0 0]) (T ++ [TkD.mk 1 2 1 (-1) 0]) i = tcn n (U ++ [UnD.mk 1 false 0 r (-1) 0 false false (-1) 0 [] 0 0]) (T ++ [TkD.mk 1 2 0 (-1) 0]) i + (if ((i : Int) == 1 || (i : Int) == 2) = true then 1 else 0) := by
  rw [tcn_at hs, tcn_at hs, hd, if_neg (by simp), if_neg (by simp), List.filter_append, List.filter_append, List.length_append, List.length_append, full_tcx hm hs (TkD.mk 1 2 1 (-1) 0) (TkD.mk 1 2 0 (-1) 0)]
  have o := robot_out hv hr hs hd
  have l1 := inP_lo hv hs (c := -1) (by omega)
  have e1 : tcx n (T ++ [TkD.mk 1 2 0 (-1) 0]) i (UnD.mk 1 false 0 r (-1) 0 false false (-1) 0 [] 0 0) = false := by
    unfold tcx; rw [tkP_at hs]; unfold tkB; simp only [o, l1]; rfl
  have e2 : tcx n (T ++ [TkD.mk 1 2 1 (-1) 0]) i (UnD.mk 1 false 0 r (-1) 0 false false T.length 1 [] 0 0) = ((i : Int) == 1 || (i : Int) == 2) := by
    unfold tcx; rw [tkP_at hs]; unfold tkB tkPh; simp only [o, l1, Int.toNat_natCast, List.getElem?_concat_length]; simp
  simp only [List.filter, e1, e2]
  cases ((i : Int) == 1 || (i : Int) == 2) <;> simp
theorem stF_run (l : List Int) : CT Try.prog 4 [] [lI l] [] (.bool true) := by
  refine stF_ct l ([], .bool true) ?_
  have hs := net_spec (L := l) (kk := 0) (most := 6) (by omega) (by omega)
  have hn := hs.1
  have hk : netK l 0 6 ≤ 10000 := by have := hs.2.1; omega
  have hm := (maf_spec (L := l) hn.loose hk).1
  have hS : ∀ a b c d, stFStep l (.l0 a b c d) = stFS0 l a b c d := fun _ _ _ _ => rfl
  unfold stFEn
  unfold stFS0 at hS
  rw [gu_t hn.loose, gu_t hk]
  generalize mafU (netM l 0 6) l (netK l 0 6) = U at *
  generalize mafT (netM l 0 6) l (netK l 0 6) = T at *
  generalize netM l 0 6 = n at *
  have hl := hn.loose
  have hv := hn.v
  have ns := hv.ns
  have hln := hn.ln
  have u4 := hm.u4
  have t4 := hm.t4
  obtain ⟨r, hr⟩ : ∃ r, n.rs[0]? = some r := by cases h : n.rs with | nil => exact absurd h hn.rb | cons a b => exact ⟨a, rfl⟩
  have hwU : IntKind.i64.wrap (iN (U.length + 1) - 1) = (U.length : Int) := by rw [wrapS _ (by simp only [iN]; omega) (by simp only [iN]; omega)]; simp only [iN]; omega
  have hwT : IntKind.i64.wrap (iN (T.length + 1) - 1) = (T.length : Int) := by rw [wrapS _ (by simp only [iN]; omega) (by simp only [iN]; omega)]; simp only [iN]; omega
  have gU : ∀ x : UnD, (U ++ [x])[U.length]? = some x := fun x => by simp
  have gT : ∀ x : TkD, (T ++ [x])[T.length]? = some x := fun x => by simp
  have sU : ∀ x y : UnD, (U ++ [x]).set U.length y = U ++ [y] := fun x y => by simp
  have sT : ∀ x y : TkD, (T ++ [x]).set T.length y = T ++ [y] := fun x y => by simp
  simp only [List.length_map, List.length_cons, List.length_nil, Nat.zero_add, hwU, hwT, Int.toNat_natCast, sU, sT]
  obtain ⟨s1, hs1⟩ : ∃ s, n.ss[1]? = some s := ⟨_, List.getElem?_eq_getElem (by omega)⟩
  obtain ⟨s2, hs2⟩ : ∃ s, n.ss[2]? = some s := ⟨_, List.getElem?_eq_getElem (by omega)⟩
  have d1 := hn.d1 _ hs1
  have d2 := hn.d2 _ hs2
  have rc : -1 ≤ r ∧ r < celN n := by
    obtain ⟨t, h, h1⟩ := (hv.rob 0 r hr).1
    obtain ⟨j, hj⟩ := List.getElem?_of_mem (List.mem_of_mem_take h)
    have g := hv.goodT j t hj
    have hil := (List.getElem?_eq_some_iff.1 hj).1
    have hmo := baseN_mono hv (i := j + 1) (j := n.ss.length) (by omega) (Nat.le_refl _)
    rw [baseN_succ hj, ← g.hb] at hmo
    have hce := hv.cel
    have := hv.sb hj
    omega
  have cons : ∀ (q : UnD) (k : TkD), consU n (T.length + 1) q = true → stB n k.pk = true → stB n k.dr = true → consB n (U ++ [q]) (T ++ [k]) = true := fun q k h1 h2 h3 => consB_of ⟨hv, by simp; omega, by simp; omega, (fun x hx => by
      rcases List.mem_append.1 hx with h | h
      · have := hm.uu x h
        unfold consU at this ⊢
        simp at this ⊢
        omega
      · rw [List.mem_singleton.1 h]; simpa using h1), fun x hx => by
      rcases List.mem_append.1 hx with h | h
      · exact hm.ut x h
      · rw [List.mem_singleton.1 h]; exact ⟨h2, h3⟩⟩
  have c1 := cons (UnD.mk 1 false 0 r (-1) 0 false false (-1) 0 [] 0 0) (TkD.mk 1 2 0 (-1) 0) (by unfold consU; simp; omega) hl.st1 hl.st2
  have c2 := cons (UnD.mk 1 false 0 r (-1) 0 false false T.length 1 [] 0 0) (TkD.mk 1 2 1 (-1) 0) (by unfold consU; simp; omega) hl.st1 hl.st2
  rw [show Int.toNat 0 = 0 from rfl, el_t hr, gu_t (by omega), gu_t (by omega), gu_t (by omega), gu_t (by omega), gu_t hn.rows, br_t c1, gu_t (dB_imms _), gu_t (by omega), gu_t (by simp only [iN]; omega), el_t (gU _), el_t (gU _), gu_t (by omega), gu_t (by simp only [iN]; omega), el_t (gT _)]
  dsimp only
  rw [br_t c2, gu_t (dB_imms _)]
  have hcnt := fun (i : Nat) (s : SpuD) (h : n.ss[i]? = some s) (hd : s.dep = false) => full_cnt hv hm hr h hd
  have hdep : ∀ (u : List UnD) (t : List TkD) (i : Nat) (s : SpuD), n.ss[i]? = some s → s.dep = true → tcn n u t i = 0 := fun u t i s h hd => by rw [tcn_at h, hd, if_pos rfl]
  have hsta : staE n (U ++ [UnD.mk 1 false 0 r (-1) 0 false false (-1) 0 [] 0 0]) (T ++ [TkD.mk 1 2 0 (-1) 0]) T.length = 0 := by unfold staE; rw [if_pos c1, if_neg (by simp; omega)]
  have hstb : staB n (U ++ [UnD.mk 1 false 0 r (-1) 0 false false (-1) 0 [] 0 0]) (T ++ [TkD.mk 1 2 0 (-1) 0]) T.length = (decide ((tcn n (U ++ [UnD.mk 1 false 0 r (-1) 0 false false (-1) 0 [] 0 0]) (T ++ [TkD.mk 1 2 0 (-1) 0]) 1 : Int) < s1.k) && decide ((tcn n (U ++ [UnD.mk 1 false 0 r (-1) 0 false false (-1) 0 [] 0 0]) (T ++ [TkD.mk 1 2 0 (-1) 0]) 2 : Int) < s2.k)) := by
    unfold staB
    rw [c1, dec_t (by omega), Int.toNat_natCast, gT]
    simp only [canB]
    rw [show (1 : Int) = ((1 : Nat) : Int) from rfl, tkF_at hs1, show (2 : Int) = ((2 : Nat) : Int) from rfl, tkF_at hs2]
    simp
  rw [hsta, hstb, br_f (by rfl)]
  have n1 := hcnt 1 s1 hs1 d1
  have n2 := hcnt 2 s2 hs2 d2
  have hb : ∀ (u : List UnD) (t : List TkD) (i : Nat), u.length ≤ 8 → tcn n u t i ≤ 8 := fun u t i h => Nat.le_trans (tcj_le n u t i u.length) h
  have hle := fun i => hb (U ++ [UnD.mk 1 false 0 r (-1) 0 false false (-1) 0 [] 0 0]) (T ++ [TkD.mk 1 2 0 (-1) 0]) i (by simp; omega)
  generalize hA : U ++ [UnD.mk 1 false 0 r (-1) 0 false false (-1) 0 [] 0 0] = UA at *
  generalize hB : T ++ [TkD.mk 1 2 0 (-1) 0] = TA at *
  generalize hC : U ++ [UnD.mk 1 false 0 r (-1) 0 false false T.length 1 [] 0 0] = UB at *
  generalize hD : T ++ [TkD.mk 1 2 1 (-1) 0] = TB at *
  have len : ∀ (u : List UnD) (t : List TkD), (cntL n u t).length = n.ss.length := fun u t => by simp [cntL]
  rw [br_f (by simp [iN, len]), br_f (by simp [iN, len])]
  refine loop_up (fun i => stFPc.l0 (cntL n UA TA) (decide ((tcn n UA TA 1 : Int) < s1.k) && decide ((tcn n UA TA 2 : Int) < s2.k)) (cntL n UB TB) (i : Int)) n.ss.length (fun i hi hr2 => ?_) (.to ?_ (.ret _))
  · obtain ⟨s, hss⟩ : ∃ s, n.ss[i]? = some s := ⟨_, List.getElem?_eq_getElem hi⟩
    refine .to ?_ hr2
    have e1 := cntL_at (n := n) (u := UA) (t := TA) hi
    have e2 := cntL_at (n := n) (u := UB) (t := TB) hi
    have hi8 := hle i
    rw [hS, br_t (dec_t (by simp only [iN, len]; omega)), gu_t (by omega), gu_t (by simp only [iN, len]; omega), Int.toNat_natCast, Nat.zero_add, el_t e1]
    simp only [gu_t (show (i : Int) < iN (cntL n UB TB).length by simp only [iN, len]; omega), el_t e2, wrap_nat i (by omega)]
    have key : (tcn n UB TB i : Int) = tcn n UA TA i + (if ((i : Int) == 1 || (i : Int) == 2) = true then 1 else 0) := by
      cases hd : s.dep with
      | false => rw [hcnt i s hss hd]; split <;> simp
      | true =>
        rw [hdep UB TB i s hss hd, hdep UA TA i s hss hd, if_neg]
        · rfl
        · intro h
          have : i = 1 ∨ i = 2 := by simp at h; omega
          rcases this with rfl | rfl
          · rw [hs1] at hss; cases hss; rw [d1] at hd; cases hd
          · rw [hs2] at hss; cases hss; rw [d2] at hd; cases hd
    have w1 : IntKind.i64.wrap ((tcn n UA TA i : Int) + 1) = (tcn n UA TA i : Int) + 1 := wrapS _ (by omega) (by omega)
    cases h1 : (i : Int) == 1 with
    | true => rw [h1] at key; rw [br_t rfl, w1, br_f (by simp at key ⊢; omega)]
    | false =>
      rw [br_f rfl]
      cases h2 : (i : Int) == 2 with
      | true => rw [h1, h2] at key; rw [br_t rfl, w1, br_f (by simp at key ⊢; omega)]
      | false => rw [h1, h2] at key; rw [br_f rfl, br_f (by simp at key ⊢; omega)]
  · have e1 := cntL_at (n := n) (u := UB) (t := TB) (i := 1) (by omega)
    have e2 := cntL_at (n := n) (u := UB) (t := TB) (i := 2) (by omega)
    rw [if_pos (by decide)] at n1 n2
    rw [hS, br_f (dec_f (by simp only [iN, len]; omega)), gu_t (by simp only [iN, len]; omega), el_t e1, show Int.toNat 1 = 1 from rfl, el_t hs1]
    by_cases a1 : (tcn n UB TB 1 : Int) ≤ s1.k
    · rw [br_t (dec_t a1), gu_t (by simp only [iN, len]; omega), el_t e2, show Int.toNat 2 = 2 from rfl, el_t hs2, dec_t (show (tcn n UA TA 1 : Int) < s1.k by omega)]
      by_cases a2 : (tcn n UB TB 2 : Int) ≤ s2.k
      · rw [dec_t a2, dec_t (show (tcn n UA TA 2 : Int) < s2.k by omega)]; rfl
      · rw [dec_f a2, dec_f (show ¬ (tcn n UA TA 2 : Int) < s2.k by omega)]; rfl
    · rw [br_f (dec_f a1), dec_f (show ¬ (tcn n UA TA 1 : Int) < s1.k by omega)]; rfl
theorem stationsFull_row (avs : List AV) (h : ShVs Try.prog 6 Try.f4.params.toList avs) : CT Try.prog 4 [] avs [] (.bool true) := by
  rw [Try.params4] at h
  obtain ⟨a, _, rfl, ka, h⟩ := h.consD
  obtain rfl := h.nilD
  obtain ⟨_, _, he, rfl⟩ := ka.sliceD Try.underlying25
  obtain ⟨l, rfl⟩ := rdInts he
  exact stF_run l
end Go.Proofs.Ytepomnooippjpaa

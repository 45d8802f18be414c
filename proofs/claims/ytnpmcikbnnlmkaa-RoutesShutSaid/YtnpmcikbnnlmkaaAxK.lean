import Derived.Test.YtnpmcikbnnlmkaaAxJ
/-! append. -/
namespace Go.AX
variable {P : Program}

theorem run_append_in {w : World} (t ty e : TypeId) (i : TypeInfo) (ht : P.underlying t = some (.slice e)) (hi : P.info? e = some i)
    (g sLen sCap : Nat) (cur : Array Value) (T : TypeId) (hg : w.heap[g]? = some (.cells cur T (0, 0)))
    (ao : Option Addr) (m c : Nat) (news : List Value) (hl : news.length = m * i.size) (hao : ao = none → m = 0 ∧ c = 0) (hnews : ∀ ad, ao = some ad → ∀ (j : Nat) u, news[j]? = some u → w.cell? (ad.add j) = some u)
    (h1 : ∀ u ∈ news, u.oneCell' = true) (hroom : sLen + m ≤ sCap) (hfit : sLen * i.size + news.length ≤ cur.size) :
    (Builtin.append_ #[t, t] ty #[.slice (some ⟨g, 0, none⟩) sLen sCap, .slice ao m c]).run P w =
      .ok (.slice (some ⟨g, 0, none⟩) (sLen + m) sCap) (w.setRow g (cur.toList.take (sLen * i.size) ++ news ++ cur.toList.drop (sLen * i.size + news.length)).toArray) := by
  have hst := run_storeCells_at P g (sLen * i.size) T news 0 cur w hg (by simpa using hfit) h1
  simp only [Nat.add_zero] at hst
  have hf : (Builtin.firstCells i.size m (.slice ao m c)).run P w = .ok news.toArray w := by
    cases ao with
    | none =>
      obtain ⟨rfl, rfl⟩ := hao rfl
      have : news = [] := List.eq_nil_of_length_eq_zero (by simpa using hl)
      subst this
      exact run_firstCells_none w i.size 0 0 0
    | some ad => exact run_firstCells_some (P := P) w i.size m ad m c news hl (hnews ad rfl)
  simp [Builtin.append_, run_underlying ht, sizeOf, typeInfo, hi, Builtin.lenOf, hroom, hf, Addr.add_lit, hst]

/-- A slice of length and capacity nought, to which nothing is appended. -/
theorem run_append_none {w : World} (t ty e : TypeId) (i : TypeInfo) (ht : P.underlying t = some (.slice e)) (hi : P.info? e = some i) (a ao : Option Addr) (c : Nat) :
    (Builtin.append_ #[t, t] ty #[.slice a 0 0, .slice ao 0 c]).run P w = .ok (.slice a 0 0) w := by
  have hf : (Builtin.firstCells i.size 0 (.slice ao 0 c)).run P w = .ok #[] w := by
    cases ao with
    | none => simp [Builtin.firstCells]
    | some ad => simp [Builtin.firstCells, loadCells, loadCellsFrom]
  cases a <;> simp [Builtin.append_, run_underlying ht, sizeOf, typeInfo, hi, Builtin.lenOf, hf, storeCells]

def upd (φ : Phi) (nb : Nat) (x : Nat × Nat) : Phi := fun b => if b = nb then some x else φ b

/-- append's new row: in a new block. -/
theorem Eff.grow {φ : Phi} {A : Nat → Prop} {w : World} {h : Hp} {nb z : Nat} {dead : List Nat} {es : List AV} {us extra : List Value} {T : TypeId} {n cap : Nat} {flat : Bool} (hfl : flat = true → Noref es)
    (hA : ∀ r, A r → r < w.heap.size ∧ ¬ Mut φ h r) (hn : ∀ b, nb ≤ b → φ b = none) (hrow : Row φ A w z es us) (_hlen : n = es.length) (hcap : n ≤ cap) (hsz : cap * z ≤ us.length + extra.length) :
    Eff φ A w h nb { v := .sl nb 0 n, dead, new := [{ es, z, flat }] } (.slice (some ⟨w.heap.size, 0, none⟩) n cap) (w.drew.alloc (.cells (us ++ extra).toArray T)) (upd φ nb (w.heap.size, z)) := by
  have hheap : (w.drew.alloc (.cells (us ++ extra).toArray T)).heap = w.heap.push (.cells (us ++ extra).toArray T) := rfl
  have hnew : (w.drew.alloc (.cells (us ++ extra).toArray T)).heap[w.heap.size]? = some (.cells (us ++ extra).toArray T (0, 0)) := heap_alloc_new w.drew _
  have hold : ∀ r, r < w.heap.size → (w.drew.alloc (.cells (us ++ extra).toArray T)).heap[r]? = w.heap[r]? := fun r hr => RowKit.Below.heap_alloc w.drew _ r hr
  have hrs : rowSize (w.drew.alloc (.cells (us ++ extra).toArray T)) w.heap.size = us.length + extra.length := by unfold rowSize; rw [hnew]; simp
  have hφ : ∀ b x, φ b = some x → upd φ nb (w.heap.size, z) b = some x := fun b x hb => by
    simp only [upd]; split
    · rename_i he; subst he; rw [hn b (Nat.le_refl _)] at hb; cases hb
    · exact hb
  refine ⟨⟨rfl, rfl, rfl, by simp, fun r hr _ => hold r hr, rowSize_push w _ _ hheap⟩, fun b hb => ?_, fun b hb => ?_, fun b r z' hb h1 => ?_, fun b b' r z1 z2 hb hb' h1 h2 => ?_, ?_, fun b blk hm => by simp at hm, fun blk hm => by simp at hm; subst hm; exact hfl, ?_, ?_⟩
  · simp only [upd]; rw [if_neg (by omega)]
  · simp at hb; simp only [upd]; rw [if_neg (by omega)]; exact hn b (by omega)
  · simp only [upd] at h1
    split at h1
    · simp at h1; left; simp; omega
    · rw [hn b hb] at h1; cases h1
  · simp only [upd] at h1 h2
    by_cases e1 : b = nb
    · by_cases e2 : b' = nb
      · omega
      · rw [if_neg e2, hn b' hb'] at h2; cases h2
    · rw [if_neg e1, hn b hb] at h1; cases h1
  · have := VR.sl (φ := upd φ nb (w.heap.size, z)) (A := Grow A (upd φ nb (w.heap.size, z)) nb w (w.drew.alloc (.cells (us ++ extra).toArray T)))
      (w := w.drew.alloc (.cells (us ++ extra).toArray T)) nb 0 n w.heap.size z cap (by simp [upd]) hcap (by rw [hrs, Nat.zero_add]; exact hsz)
    simpa using this
  · intro b blk hm; simp at hm
  · intro k' blk hk
    match k', hk with
    | 0, hk =>
      simp at hk; subst hk
      refine .inr ⟨w.heap.size, (us ++ extra).toArray, T, by simp [upd], hnew, by simp [hrow.len], fun i e he => ?_⟩
      obtain ⟨hl, hc⟩ := hrow.cell i e he
      refine ⟨hl, fun j c hj => ?_⟩
      obtain ⟨h1, u, hu, hvr⟩ := hc j c hj
      refine ⟨h1, u, ?_, hvr.mono hφ (fun _ h => .inl h) (fun r hr => hold r (hA r hr).1) (rowSize_push w _ _ hheap)⟩
      have hlt := (List.getElem?_eq_some_iff.1 hu).1
      rw [List.getElem?_toArray, List.getElem?_append_left hlt]; exact hu

theorem toArr (l : List Value) (a : Array Value) : l.toArray ++ a = (l ++ a.toList).toArray := by apply Array.ext'; simp

/-- Nothing appended to nothing. -/
theorem Eff.nought {φ : Phi} {A : Nat → Prop} {w : World} {h : Hp} {nb z : Nat} {dead : List Nat} {a : Option Addr} {flat : Bool} (hn : ∀ b, nb ≤ b → φ b = none) :
    Eff φ A w h nb { v := .sl nb 0 0, dead, new := [{ es := [], z, flat }] } (.slice a 0 0) w φ := by
  refine ⟨Keep.refl _ w, fun _ _ => rfl, fun b hb => hn b (by simp at hb; omega), fun b r z' hb h1 => ?_, fun b b' r z1 z2 hb hb' h1 h2 => ?_, .slnil nb 0 a, fun b blk hm => by simp at hm, fun blk hm => by simp at hm; subst hm; intro _ e he; simp at he, fun b blk hm => by simp at hm, fun k blk hk => ?_⟩
  · rw [hn b hb] at h1; cases h1
  · rw [hn b hb] at h1; cases h1
  · match k, hk with
    | 0, hk => simp at hk; subst hk; exact .inl ⟨rfl, hn _ (by omega), rfl⟩

theorem ok_append {o : Oper} {ev : Operand → AV} {h : Hp} {nb : Nat} {t : TypeId} {x y : Operand} {e : AV} {z by_ : Nat} {old src : List AV} {dead : List Nat} {fl : Bool}
    (ho : o.op = .call { callee := .builtin .append, args := #[x, y], argTypes := #[t, t] }) (ht : zeroEl P t = some (e, z, by_))
    (hx : ((ev x = .nils ∨ ∃ b, nb ≤ b ∧ ev x = .sl b 0 0) ∧ old = [] ∧ dead = [] ∧ fl = true) ∨ ∃ b n blk, ev x = .sl b 0 n ∧ h b = some blk ∧ blk.z = z ∧ blk.wr = true ∧ blk.flat = fl ∧ blk.es = old ∧ blk.es.length = n ∧ dead = [b])
    (hy : srcOf h (ev y) = some src) (hf : SrcFit h z (ev y)) (h63 : old.length + src.length ≤ 9223372036854775807) (hb : (old.length + src.length) * by_ ≤ 140737488355328) :
    OpOK P o ev h nb { v := .sl nb 0 (old.length + src.length), dead, new := [{ es := old ++ src, z, flat := fl && srcFlat h (ev y) }] } := by
  intro φ A w ac K Q hA hv hh hn k
  obtain ⟨el, i, zv, hu, hi, hz, rfl, hsz, hby, hkn, hzl, hone, hpos⟩ := zeroEl_spec ht
  obtain ⟨ao, c, news, hvy, hrow, hao, hnews⟩ := Src.of hh hy hf (hv y) hpos
  have hnl : news.length = src.length * i.size := by rw [hrow.len, hsz]
  have h1s := hrow.one hpos
  have hzs : zv.cells.size = z := by
    have := ((VR.imm (φ := φ) (A := A) (w := w) _ _ (RT.absV zv)).cr hkn).1
    simp at this; omega
  have hsf := srcFlat_spec hh hy (hv y)
  have wrap : ∀ (r : Value) (w' : World) (φ' : Phi), (Builtin.append_ #[t, t] o.type #[ac.eval x, .slice ao src.length c]).run P w = .ok r w' →
      Eff φ A w h nb { v := .sl nb 0 (old.length + src.length), dead, new := [{ es := old ++ src, z, flat := fl && srcFlat h (ev y) }] } r w' φ' → o.wp P ac w K Q := by
    intro r w' φ' hr he
    unfold Oper.wp
    have hex : (execOp ac.eval o).run P w = .ok (.value r) w' := by
      rw [← hvy] at hr
      generalize ac.eval = ρ at *
      simp [execOp, ho, resolve, invoke, builtin, hr]
    rw [hex]
    exact k r w' φ' he
  have hzero : ∀ n, (Builtin.zeroCells zv.cells n).toList.length = n * z := by intro n; simp [size_zeroCells, hzs]
  -- the base has length and capacity nought
  have nought : ∀ a : Option Addr, ac.eval x = .slice a 0 0 → old = [] → o.wp P ac w K Q := by
    intro a ha hold
    subst hold
    by_cases hm : src.length = 0
    · have hs : src = [] := List.eq_nil_of_length_eq_zero hm
      subst hs
      refine wrap (.slice a 0 0) w φ (by rw [ha]; exact run_append_none t o.type el i hu hi a ao c) ?_
      simpa using Eff.nought (z := z) hn
    · have hne : ao ≠ none := fun h0 => hm (by rw [(hao h0).1]; rfl)
      obtain ⟨ad, rfl⟩ := Option.ne_none_iff_exists'.1 hne
      simp only [List.length_nil, Nat.zero_add] at h63 hb
      have hg := grownCap_ge w src.length 0 el
      refine wrap (.slice (some ⟨w.heap.size, 0, none⟩) src.length (grownCap w src.length 0 el)) (w.drew.alloc (.cells (news.toArray ++ Builtin.zeroCells zv.cells (grownCap w src.length 0 el - src.length)) el)) (upd φ nb (w.heap.size, i.size)) ?_ ?_
      · rw [ha]
        cases a with
        | none => exact run_append_nil w t o.type el i zv hu hi hz ad src.length c news hnl (hnews ad rfl) (by omega) (by omega) (by rw [hby]; omega)
        | some a' =>
          have := run_append_grow (P := P) w t o.type el i zv hu hi hz a' 0 0 [] (by simp) (by intro j v hj; simp at hj) ad src.length c news hnl (hnews ad rfl) (by omega) (by omega) (growslice_fits (by omega) (by rw [hby]; simpa using hb))
          simpa using this
      · rw [hsz]
        have := Eff.grow (dead := dead) (T := el) (n := src.length) (cap := grownCap w src.length 0 el) (flat := fl && srcFlat h (ev y)) (fun hf => hsf (by simp only [Bool.and_eq_true] at hf; exact hf.2)) (extra := (Builtin.zeroCells zv.cells (grownCap w src.length 0 el - src.length)).toList) hA hn hrow rfl hg
          (by rw [hzero, hrow.len, Nat.sub_mul]; have := Nat.mul_le_mul_right z hg; omega)
        rw [toArr]
        simpa using this
  rcases hx with ⟨hx, rfl, rfl, rfl⟩ | ⟨b, n, blk, hx, hbl, hbz, hwr, rfl, rfl, hln, rfl⟩
  · rcases hx with hx | ⟨b, hnb, hx⟩
    · have h0 := hv x; rw [hx] at h0
      exact nought none h0.nils_inv rfl
    · have h0 := hv x; rw [hx] at h0
      rcases h0.sl_inv with ⟨_, a, he⟩ | ⟨r, z', cap, hφ, _⟩
      · exact nought a he rfl
      · rw [hn b hnb] at hφ; cases hφ
  · have h0 := hv x; rw [hx] at h0
    rcases h0.sl_inv with ⟨hn0, a, he⟩ | ⟨r, z', cap, hφ, hnc, hrw, he⟩
    · exact nought a he (List.eq_nil_of_length_eq_zero (by omega))
    · obtain ⟨hzz, cs, T, hr, hsz', hrow'⟩ := hh.row hbl hφ
      have hz' : z' = z := by omega
      subst hz'
      have hrc : cap * z' ≤ cs.size := by have := hrw; rw [Nat.zero_add] at this; unfold rowSize at this; rw [hr] at this; exact this
      have hboth := hrow'.append hrow
      have hboth2 : (blk.flat && srcFlat h (ev y)) = true → Noref (blk.es ++ src) := by
        intro hf e' he'
        simp only [Bool.and_eq_true] at hf
        rcases List.mem_append.1 he' with hm | hm
        · exact hh.flat b blk hbl hf.1 e' hm
        · exact hsf hf.2 e' hm
      simp only [Nat.zero_mul] at he
      by_cases hroom : n + src.length ≤ cap
      · have hfit : n * i.size + news.length ≤ cs.size := by rw [hnl, ← Nat.add_mul, hsz]; exact Nat.le_trans (Nat.mul_le_mul_right z' hroom) hrc
        have hrun := run_append_in (P := P) (w := w) t o.type el i hu hi r n cap cs T hr ao src.length c news hnl (fun h0 => ⟨by rw [(hao h0).1]; rfl, (hao h0).2⟩) hnews h1s hroom hfit
        have hcs' : cs.size = (cs.toList.take (n * i.size) ++ news ++ cs.toList.drop (n * i.size + news.length)).toArray.size := by simp; omega
        let φ' : Phi := fun b' => if b' = nb then some (r, z') else φ b'
        have hbn : b < nb := by
          rcases Nat.lt_or_ge b nb with h1 | h1
          · exact h1
          · rw [hn b h1] at hφ; cases hφ
        have hφ' : ∀ b x, φ b = some x → φ' b = some x := fun b' x hb' => by
          simp only [φ']; split
          · rename_i he; subst he; rw [hn b' (Nat.le_refl _)] at hb'; cases hb'
          · exact hb'
        have hother : ∀ q, q ≠ r → (w.setRow r (cs.toList.take (n * i.size) ++ news ++ cs.toList.drop (n * i.size + news.length)).toArray).heap[q]? = w.heap[q]? := fun q hq => setRow_other w r q _ hq
        have hAr : ∀ q, A q → q ≠ r := fun q hq he' => (hA q hq).2 ⟨b, blk, z', hbl, hwr, by rw [he']; exact hφ⟩
        have hrs := rowSize_setRow w r cs _ T _ hr hcs'
        refine wrap _ _ φ' (by rw [he]; exact hrun) ?_
        refine ⟨⟨rfl, rfl, rfl, by simp, fun q _ hq => hother q fun he' => hq ⟨b, z', .inl (by simp), by rw [he']; exact hφ⟩, hrs⟩, fun b' hb' => ?_, fun b' hb' => ?_, fun b' q z1 hb' h1 => ?_, fun b1 b2 q z1 z2 hb1 hb2 h1 h2 => ?_, ?_, fun b' blk' hm => by simp at hm, fun blk' hm => by simp at hm; subst hm; exact hboth2, fun b' blk' hm => by simp at hm, fun k' blk' hk => ?_⟩
        · simp only [φ']; rw [if_neg (by omega)]
        · simp at hb'; simp only [φ']; rw [if_neg (by omega)]; exact hn b' (by omega)
        · simp only [φ'] at h1
          split at h1
          · simp at h1; right; exact ⟨b, z', blk, by simp, hbl, hwr, by rw [← h1.1]; exact hφ⟩
          · rw [hn b' hb'] at h1; cases h1
        · simp only [φ'] at h1 h2
          by_cases e1 : b1 = nb
          · by_cases e2 : b2 = nb
            · omega
            · rw [if_neg e2, hn b2 hb2] at h2; cases h2
          · rw [if_neg e1, hn b1 hb1] at h1; cases h1
        · have := VR.sl (φ := φ') (A := Grow A φ' nb w (w.setRow r (cs.toList.take (n * i.size) ++ news ++ cs.toList.drop (n * i.size + news.length)).toArray))
            (w := w.setRow r (cs.toList.take (n * i.size) ++ news ++ cs.toList.drop (n * i.size + news.length)).toArray) nb 0 (n + src.length) r z' cap (by simp [φ']) hroom (Nat.le_trans hrw (hrs r))
          rw [hln]
          simpa using this
        · match k', hk with
          | 0, hk =>
            simp at hk; subst hk
            refine .inr ⟨r, _, T, by simp [φ'], setRow_heap w r cs _ T _ hr, ?_, fun q e' he' => ?_⟩
            · rw [← hcs']; simp only [List.length_append]; rw [hln]; exact Nat.le_trans (Nat.mul_le_mul_right z' hroom) hrc
            · obtain ⟨hl, hc⟩ := hboth.cell q e' he'
              refine ⟨hl, fun j c' hj => ?_⟩
              obtain ⟨g1, u, hu', hvr⟩ := hc j c' hj
              refine ⟨g1, u, ?_, hvr.mono hφ' (fun _ h => .inl h) (fun q hq => hother q (hAr q hq)) hrs⟩
              have hlt := (List.getElem?_eq_some_iff.1 hu').1
              rw [List.getElem?_toArray, hsz, ← hln, List.getElem?_append_left hlt]; exact hu'
      · have holds : ∀ (j : Nat) v, (cs.toList.take (blk.es.length * z'))[j]? = some v → w.cell? ((⟨r, 0, none⟩ : Addr).add j) = some v := by
          intro j v hj
          rw [List.getElem?_take] at hj
          split at hj
          · rw [Addr.add_lit, cell_of_row w r _ cs T (0, 0) hr]; simpa using hj
          · cases hj
        have hge := grownCap_ge w (n + src.length) cap el
        have hne : ao ≠ none := by
          intro h0; have := (hao h0).1; subst this; simp at hroom; omega
        obtain ⟨ad, rfl⟩ := Option.ne_none_iff_exists'.1 hne
        refine wrap (.slice (some ⟨w.heap.size, 0, none⟩) (n + src.length) (grownCap w (n + src.length) cap el))
          (w.drew.alloc (.cells ((cs.toList.take (blk.es.length * z')).toArray ++ news.toArray ++ Builtin.zeroCells zv.cells (grownCap w (n + src.length) cap el - (n + src.length))) el)) (upd φ nb (w.heap.size, z')) ?_ ?_
        · rw [he]
          exact run_append_grow (P := P) w t o.type el i zv hu hi hz ⟨r, 0, none⟩ n cap (cs.toList.take (blk.es.length * z')) (by rw [hrow'.len, hln, hsz]) holds ad src.length c news hnl (hnews ad rfl) (by omega) (by omega)
            (growslice_fits (by omega) (by rw [hby, ← hln]; exact hb))
        · have := Eff.grow (dead := [b]) (T := el) (n := n + src.length) (cap := grownCap w (n + src.length) cap el) (flat := blk.flat && srcFlat h (ev y)) hboth2 (extra := (Builtin.zeroCells zv.cells (grownCap w (n + src.length) cap el - (n + src.length))).toList) hA hn hboth
            (by simp [hln]) hge (by rw [hzero, hboth.len, List.length_append, hln, Nat.sub_mul]; have := Nat.mul_le_mul_right z' hge; omega)
          rw [List.append_toArray, toArr]
          rw [← hln] at this ⊢
          simpa using this

end Go.AX

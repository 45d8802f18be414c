import Derived.Test.YtnpmcikbnnlmkaaAxH
/-! Stores. -/
namespace Go.AX
variable {φ : Phi} {A : Nat → Prop} {w : World} {P : Program}

/-- An element with the cells 'xs' laid in from place j on. -/
def upE (e : AV) (j : Nat) (xs : List AV) : AV :=
  match e with
  | .agg cs => .agg (cs.take j ++ xs ++ cs.drop (j + xs.length))
  | _ => match xs with
    | [x] => x
    | xs => .agg xs

theorem rowSize_setRow (w : World) (r : Nat) (cs cs' : Array Value) (T : TypeId) (fr : Nat × Nat) (h : w.heap[r]? = some (.cells cs T fr)) (hs : cs.size = cs'.size) (q : Nat) :
    rowSize w q ≤ rowSize (w.setRow r cs') q := by
  unfold rowSize
  by_cases hq : q = r
  · subst hq; rw [h, setRow_heap w q cs cs' T fr h]; simp [hs]
  · rw [setRow_other w r q cs' hq]; exact Nat.le_refl _

/-- A block of which one row of cells is written anew. -/
theorem Eff.write {h : Hp} {nb b r z : Nat} {blk blk' : Blk} {cs cs' : Array Value} {T : TypeId} {v : AV} {v' : Value}
    (hA : ∀ r, A r → r < w.heap.size ∧ ¬ Mut φ h r) (hn : ∀ b, nb ≤ b → φ b = none) (hb : h b = some blk) (hw : blk.wr = true) (hφ : φ b = some (r, z)) (hz : blk'.z = z)
    (hr : w.heap[r]? = some (.cells cs T (0, 0))) (hs : cs.size = cs'.size) (hv : VR φ A w v v') (hfl : blk'.flat = true → Noref blk'.es) (hsz : blk'.es.length * z ≤ cs'.size)
    (hc : ∀ (i : Nat) e, blk'.es[i]? = some e → e.cells.length = z ∧ ∀ (j : Nat) c, e.cells[j]? = some c → c.one = true ∧ ∃ u, cs'[i * z + j]? = some u ∧ VR φ A w c u) :
    Eff φ A w h nb { v, chg := [(b, blk')] } v' (w.setRow r cs') φ := by
  have hAr : ∀ q, A q → q ≠ r := fun q hq he => (hA q hq).2 ⟨b, blk, z, hb, hw, by rw [he]; exact hφ⟩
  have hkeep : ∀ q, A q → (w.setRow r cs').heap[q]? = w.heap[q]? := fun q hq => setRow_other w r q cs' (hAr q hq)
  have hmono : ∀ {c u}, VR φ A w c u → VR φ (Grow A φ nb w (w.setRow r cs')) (w.setRow r cs') c u := fun h =>
    h.mono (fun _ _ h => h) (fun _ h => .inl h) hkeep (rowSize_setRow w r cs cs' T _ hr hs)
  refine ⟨⟨rfl, rfl, rfl, by simp, fun q _ hq => setRow_other w r q cs' fun he => hq ⟨b, z, .inr ⟨blk', by simp⟩, by rw [he]; exact hφ⟩, rowSize_setRow w r cs cs' T _ hr hs⟩, fun _ _ => rfl,
    fun b' hb' => hn b' (by simpa using hb'), fun b' q z' hb' h1 => ?_, fun b1 b2 q z1 z2 h1 _ h2 _ => ?_, hmono hv, fun b' blk'' hm => by simp at hm; obtain ⟨_, rfl⟩ := hm; exact hfl, fun blk'' hm => by simp at hm, fun b' blk'' hm => ?_, fun k blk'' hm => by simp at hm⟩
  · rw [hn b' hb'] at h1; cases h1
  · rw [hn b1 h1] at h2; cases h2
  · simp only [List.mem_singleton, Prod.mk.injEq] at hm
    obtain ⟨rfl, rfl⟩ := hm
    subst hz
    refine .inr ⟨r, cs', T, hφ, setRow_heap w r cs cs' T _ hr, hsz, fun i e he => ?_⟩
    obtain ⟨hl, hc'⟩ := hc i e he
    refine ⟨hl, fun j c hj => ?_⟩
    obtain ⟨h1, u, hu, hvr⟩ := hc' j c hj
    exact ⟨h1, u, hu, hmono hvr⟩

theorem getElem?_splice (l m : List Value) (o k : Nat) (h : o + m.length ≤ l.length) :
    (l.take o ++ m ++ l.drop (o + m.length))[k]? = if k < o then l[k]? else if k < o + m.length then m[k - o]? else l[k]? := by
  simp only [List.append_assoc, List.getElem?_append, List.length_take, List.getElem?_take, List.getElem?_drop]
  have e1 : min o l.length = o := by omega
  rw [e1]
  (repeat' split) <;> first | rfl | (exfalso; omega) | (congr 1; omega)

theorem idx_ne {z i i' j j' : Nat} (hj : j < z) (hj' : j' < z) (h : i * z + j = i' * z + j') : i = i' ∧ j = j' := by
  have hi : i = i' := by
    rcases Nat.lt_trichotomy i i' with hlt | he | hgt
    · have := Nat.mul_le_mul_right z hlt; rw [Nat.succ_mul] at this; omega
    · exact he
    · have := Nat.mul_le_mul_right z hgt; rw [Nat.succ_mul] at this; omega
  subst hi
  exact ⟨rfl, by omega⟩

theorem ok_store {o : Oper} {ev : Operand → AV} {h : Hp} {nb : Nat} {t : TypeId} {x y : Operand} {b i j s : Nat} {ag : Bool} {blk : Blk} {e : AV}
    (ho : o.op = .store t x y) (hx : ev x = .ptr b i j) (hb : h b = some blk) (hw : blk.wr = true) (ht : tsz P t = some (s, ag)) (hk : (ev y).known = true)
    (hl : (ev y).cells.length = s) (h1 : allOne (ev y).cells = true) (he : i < blk.es.length) (hj : j + s ≤ blk.z)
    (hnew : e.cells.length = blk.z) (hcell : ∀ (k : Nat) c, e.cells[k]? = some c → (j ≤ k ∧ k < j + s ∧ (ev y).cells[k - j]? = some c) ∨ ((k < j ∨ j + s ≤ k) ∧ ∃ e0, blk.es[i]? = some e0 ∧ e0.cells[k]? = some c)) :
    OpOK P o ev h nb { v := .unk, chg := [(b, { blk with es := blk.es.set i e, flat := blk.flat && norefL (ev y).cells })] } := by
  intro φ A w a K Q hA hv hh hn k
  have hx' := hv x; rw [hx] at hx'
  obtain ⟨r, z, hφ, hp⟩ := hx'.ptr_inv
  rcases hh.blk b blk hb with ⟨h0, _⟩ | ⟨r', cs, T, hφ', hr, hsz, hel⟩
  · rw [h0] at he; simp at he
  rw [hφ] at hφ'
  simp only [Option.some.injEq, Prod.mk.injEq] at hφ'
  obtain ⟨rfl, rfl⟩ := hφ'
  have hcr := (hv y).cr hk
  obtain ⟨ti, hti, hts⟩ := tsz_info ht
  have hlen : (a.eval y).cells.toList.length = s := by rw [hcr.1, hl]
  have hfit : i * blk.z + j + s ≤ cs.size := by
    have := Nat.mul_le_mul_right blk.z he
    rw [Nat.succ_mul] at this; omega
  have hones : ∀ u ∈ (a.eval y).cells.toList, u.oneCell' = true := by
    intro u hu
    obtain ⟨q, hq⟩ := List.getElem?_of_mem hu
    have hql := (List.getElem?_eq_some_iff.1 hq).1
    have hqc : q < (ev y).cells.length := by omega
    refine (hcr.2 q (ev y).cells[q] u (by simp [hqc]) hq).one ?_
    exact List.all_eq_true.1 h1 _ (List.getElem_mem _)
  have hrun := run_storeCells_at P r (i * blk.z + j) T (a.eval y).cells.toList 0 cs w hr (by simpa [hlen] using hfit) hones
  simp only [Nat.add_zero] at hrun
  have hsize2 : (a.eval y).cells.size = s := by simpa using hlen
  have hnewsz : cs.size = (cs.toList.take (i * blk.z + j) ++ (a.eval y).cells.toList ++ cs.toList.drop (i * blk.z + j + (a.eval y).cells.toList.length)).toArray.size := by
    simp; omega
  unfold Oper.wp
  have hex : (execOp a.eval o).run P w = .ok .skip (w.setRow r (cs.toList.take (i * blk.z + j) ++ (a.eval y).cells.toList ++ cs.toList.drop (i * blk.z + j + (a.eval y).cells.toList.length)).toArray) := by
    generalize a.eval = ρ at *
    simp [execOp, ho, hp, Instr.storeAt, Instr.sureAddr, storeVar, sizeOf, typeInfo, hti, hts, ← hlen] at hrun ⊢
    simp [hrun]
  rw [hex]
  refine k undef _ φ (Eff.write (blk' := { blk with es := blk.es.set i e, flat := blk.flat && norefL (ev y).cells }) (v := .unk) hA hn hb hw hφ rfl hr ?_ (.imm _ _ (.unk _)) ?_ ?_ fun i' e' he' => ?_)
  · exact hnewsz
  · intro hf e' he' c hc
    simp only [Bool.and_eq_true] at hf
    rcases List.mem_or_eq_of_mem_set he' with hm | rfl
    · exact hh.flat b blk hb hf.1 e' hm c hc
    · obtain ⟨q, hq⟩ := List.getElem?_of_mem hc
      rcases hcell q c hq with ⟨_, _, h4⟩ | ⟨_, e0, he0, h4⟩
      · exact List.all_eq_true.1 hf.2 c (List.mem_of_getElem? h4)
      · exact hh.flat b blk hb hf.1 e0 (List.mem_of_getElem? he0) c (List.mem_of_getElem? h4)
  · rw [← hnewsz]; simpa using hsz
  · simp only [List.getElem?_set] at he'
    have old : ∀ e0, blk.es[i']? = some e0 → ∀ (q : Nat) c, e0.cells[q]? = some c → (i' ≠ i ∨ q < j ∨ j + s ≤ q) → c.one = true ∧ ∃ u, (cs.toList.take (i * blk.z + j) ++ (a.eval y).cells.toList ++ cs.toList.drop (i * blk.z + j + (a.eval y).cells.toList.length)).toArray[i' * blk.z + q]? = some u ∧ VR φ A w c u := by
      intro e0 he0 q c hq hout
      obtain ⟨hl0, hc0⟩ := hel i' e0 he0
      obtain ⟨g1, u, hu, hvr⟩ := hc0 q c hq
      refine ⟨g1, u, ?_, hvr⟩
      have hqz : q < blk.z := by have := (List.getElem?_eq_some_iff.1 hq).1; omega
      rw [List.getElem?_toArray, getElem?_splice _ _ _ _ (by simpa [hlen] using hfit), hlen]
      have hui : cs.toList[i' * blk.z + q]? = some u := by simpa using hu
      by_cases g : i' * blk.z + q < i * blk.z + j
      · rw [if_pos g]; exact hui
      · rw [if_neg g]
        by_cases g2 : i' * blk.z + q < i * blk.z + j + s
        · exfalso
          have : ∃ d, d < s ∧ i' * blk.z + q = i * blk.z + (j + d) := ⟨i' * blk.z + q - (i * blk.z + j), by omega, by omega⟩
          obtain ⟨d, hd, hde⟩ := this
          have := idx_ne hqz (by omega) hde
          omega
        · rw [if_neg g2]; exact hui
    by_cases hii : i = i'
    · subst hii
      rw [if_pos rfl, if_pos he] at he'
      cases he'
      refine ⟨hnew, fun q c hq => ?_⟩
      rcases hcell q c hq with ⟨h2, h3, h4⟩ | ⟨h2, e0, he0, h4⟩
      · refine ⟨List.all_eq_true.1 h1 c (List.mem_of_getElem? h4), ?_⟩
        have hlt : q - j < (a.eval y).cells.toList.length := by omega
        refine ⟨(a.eval y).cells.toList[q - j], ?_, hcr.2 (q - j) c _ h4 (by simp only [List.getElem?_eq_getElem hlt])⟩
        rw [List.getElem?_toArray, getElem?_splice _ _ _ _ (by simpa [hlen] using hfit), hlen, if_neg (by omega), if_pos (by omega)]
        rw [show i * blk.z + q - (i * blk.z + j) = q - j from by omega, List.getElem?_eq_getElem hlt]
      · exact old e0 he0 q c h4 (.inr h2)
    · rw [if_neg hii] at he'
      exact ⟨(hel i' e' he').1, fun q c hq => old e' he' q c hq (.inl (Ne.symm hii))⟩

end Go.AX

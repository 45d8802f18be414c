import Derived.Test.YtnpmcikbnnlmkaaAxR
/-! The evaluator of one operation. -/
namespace Go.AX
variable {φ : Phi} {A : Nat → Prop} {w : World} {P : Program}

theorem ok_slice_lst {o : Oper} {ev : Operand → AV} {h : Hp} {nb : Nat} {t : TypeId} {x : Operand} {lo hi mx : Option Operand} {es : List AV} {z : Nat} {l u m : Int}
    (ho : o.op = .slice t x lo hi mx) (hx : ev x = .lst es) (ht : elSz P t = some (none, z)) (hz : ∀ e ∈ es, e.cells.length = z)
    (hl : bnd ev lo 0 = some l) (hu : bnd ev hi es.length = some u) (hm : bnd ev mx es.length = some m) (hmx : mx.isSome = true → hi.isSome = true)
    (h0 : 0 ≤ l ∧ l ≤ u ∧ u ≤ m ∧ m ≤ es.length) : OpOK P o ev h nb { v := .lst ((es.drop l.toNat).take (u.toNat - l.toNat)) } := by
  refine .value fun φ A w ρ _ hv hh => ?_
  have h1 := hv x; rw [hx] at h1
  obtain ⟨e, inf, hun, hi', hsz⟩ := elSz_slice ht
  obtain ⟨h0, h01, h02, h03⟩ := h0
  have hlen : ((es.drop l.toNat).take (u.toNat - l.toNat)).length = u.toNat - l.toNat := by simp; omega
  have fin : ∀ (a : Option Addr) (cap : Nat), ρ x = .slice a es.length cap → es.length ≤ cap → (∀ m' : Nat, u.toNat ≤ m' → m' ≤ cap → VR φ A w (.lst ((es.drop l.toNat).take (u.toNat - l.toNat)))
      (.slice (if m' = l.toNat then a else a.map (·.add (l.toNat * inf.size))) (u.toNat - l.toNat) (m' - l.toNat))) →
      ∃ v', (execOp ρ o).run P w = .ok (.value v') w ∧ VR φ A w (.lst ((es.drop l.toNat).take (u.toNat - l.toNat))) v' := by
    intro a cap he hc hvr
    obtain ⟨m', hm1, hm2, hr⟩ := run_bounds (P := P) hv (len := es.length) (cap := cap) true hl hu hm hmx rfl h0 h01 h02 h03 hc
    refine ⟨_, ?_, hvr m' hm1 hm2⟩
    simp [execOp, ho, he, Instr.sliceAt, Instr.slice, run_underlying hun, hr, sizeOf, typeInfo, hi']
  rcases h1.lst_inv with ⟨he0, a, he⟩ | ⟨r, o', cap, z', g, he, hcap, hA, hz', hone, hc, hrt⟩
  · subst he0
    refine fin a 0 he (Nat.le_refl _) fun m' hm1 hm2 => ?_
    simp at h03
    have hl0 : l.toNat = 0 := by omega
    have hu0 : u.toNat = 0 := by omega
    have hm0 : m' = 0 := by omega
    rw [hl0, hu0, hm0]
    exact .imm _ _ (.lnil a)
  · refine fin _ cap he hcap fun m' hm1 hm2 => ?_
    by_cases hml : m' = l.toNat
    · rw [if_pos hml]
      have e1 : u.toNat - l.toNat = 0 := by omega
      have e2 : m' - l.toNat = 0 := by omega
      rw [e1, e2]
      exact .imm _ _ (.lnil _)
    · rw [if_neg hml]
      by_cases hes : es = []
      · subst hes
        simp at h03
        have hl0 : l.toNat = 0 := by omega
        have hu0 : u.toNat = 0 := by omega
        rw [hl0, hu0]
        have := RT.lst (A := A) (w := w) [] r o' (m' - 0) 0 (fun _ _ => undef) (by simp) (by simp) (by simp) (by simp) (by simp) (by simp)
        exact .imm _ _ (by simpa [Addr.add] using this)
      · have hzz : z' = z := by
          obtain ⟨e, he⟩ := List.exists_mem_of_ne_nil es hes
          rw [← hz e he, hz' e he]
        subst hzz
        have ead : (⟨r, o', none⟩ : Addr).add (l.toNat * inf.size) = ⟨r, o' + l.toNat * z', none⟩ := by rw [Addr.add_lit, hsz]
        simp only [Option.map_some, ead]
        have hmem : ∀ e ∈ (es.drop l.toNat).take (u.toNat - l.toNat), e ∈ es := fun e he => List.mem_of_mem_drop (List.mem_of_mem_take he)
        have := RT.lst (A := A) (w := w) ((es.drop l.toNat).take (u.toNat - l.toNat)) r (o' + l.toNat * z') (m' - l.toNat) z' (fun i j => g (l.toNat + i) j) (by rw [hlen]; omega) (fun _ => hA hes)
          (fun e he => hz' e (hmem e he)) (fun e he => hone e (hmem e he)) (fun i j hi hj => by
            rw [hlen] at hi
            have := hc (l.toNat + i) j (by omega) hj
            rw [Nat.add_mul, ← Nat.add_assoc] at this
            rw [show o' + l.toNat * z' + i * z' + j = o' + (l.toNat * z') + i * z' + j from rfl]
            exact this) (fun i j e c he hj => by
            rw [List.getElem?_take] at he
            split at he
            · rw [List.getElem?_drop] at he; exact hrt _ j e c he hj
            · cases he)
        rw [hlen] at this
        exact .imm _ _ this

/-- 's[:0:0]': nothing, and no room. -/
theorem ok_slice_emp {o : Oper} {ev : Operand → AV} {h : Hp} {nb : Nat} {t : TypeId} {x y q : Operand} {es : List AV} {z : Nat} {ky kq : IntKind}
    (ho : o.op = .slice t x none (some y) (some q)) (hx : ev x = .lst es) (ht : elSz P t = some (none, z)) (hy : ev y = .int ky 0) (hq : ev q = .int kq 0) : OpOK P o ev h nb { v := .sl 1000000 0 0 } := by
  refine .value fun φ A w ρ _ hv hh => ?_
  have h1 := hv x; rw [hx] at h1
  have h2 := hv y; rw [hy] at h2
  have h3 := hv q; rw [hq] at h3
  have h2 := h2.int_inv
  have h3 := h3.int_inv
  obtain ⟨e, inf, hun, hi', hsz⟩ := elSz_slice ht
  obtain ⟨a, len, cap, he⟩ : ∃ a len cap, ρ x = .slice a len cap := by
    rcases h1.lst_inv with ⟨_, a, he⟩ | ⟨r, o', cap, z', g, he, _⟩
    · exact ⟨_, _, _, he⟩
    · exact ⟨_, _, _, he⟩
  refine ⟨.slice a 0 0, ?_, .slnil _ _ a⟩
  simp [execOp, ho, he, h2, h3, Instr.sliceAt, Instr.slice, run_underlying hun, sizeOf, typeInfo, hi', Instr.sliceBounds, Instr.sliceBound, asIntOf]

theorem ok_eqNil {o : Oper} {ev : Operand → AV} {h : Hp} {nb : Nat} {t t' e : TypeId} {x y : Operand} {op : BinOp} {b v : Bool}
    (ho : o.op = .binOp op t x y t') (hu : P.underlying t = some (.slice e)) (hy : ev y = .nils)
    (hx : (ev x = .nils ∧ b = true) ∨ (b = false ∧ ∃ es, ev x = .lst es ∧ es ≠ []) ∨ (b = false ∧ ∃ bl i n, ev x = .sl bl i n ∧ n ≠ 0))
    (hop : (op = .eql ∧ v = b) ∨ (op = .neq ∧ v = !b)) : OpOK P o ev h nb { v := .bool v } := by
  refine .value fun φ A w ρ _ hv _ => ⟨.bool v, ?_, .imm _ _ (.bool _)⟩
  have h1 := hv x
  have h2 := hv y; rw [hy] at h2; have h2 := h2.nils_inv
  have hp : ∃ a n c, ρ x = .slice a n c ∧ ((a = none ∧ b = true) ∨ (a ≠ none ∧ b = false)) := by
    rcases hx with ⟨hx, rfl⟩ | ⟨rfl, es, hx, hes⟩ | ⟨rfl, bl, i, n, hx, hn⟩ <;> rw [hx] at h1
    · exact ⟨none, 0, 0, h1.nils_inv, .inl ⟨rfl, rfl⟩⟩
    · rcases h1.lst_inv with ⟨he, _⟩ | ⟨r, o', cap, z, g, he, _⟩
      · exact absurd he hes
      · exact ⟨_, _, _, he, .inr ⟨by simp, rfl⟩⟩
    · rcases h1.sl_inv with ⟨he, _⟩ | ⟨r, z, cap, _, _, _, he⟩
      · exact absurd he hn
      · exact ⟨_, _, _, he, .inr ⟨by simp, rfl⟩⟩
  obtain ⟨a, n, c, he, hb⟩ := hp
  have hg : (eqGuard op t x y (.slice a n c) (.slice none 0 0)).run P w = .ok () w := by unfold eqGuard; split <;> simp_all
  have hr : (Op.equal t (.slice a n c) (.slice none 0 0)).run P w = .ok b w := by
    have key : ∀ d, (Op.equalIn (d + 1) t (.slice a n c) (.slice none 0 0)).run P w = .ok b w := by
      intro d
      cases a with
      | none =>
        rcases hb with ⟨_, rfl⟩ | ⟨hb, _⟩
        · simp [Op.equalIn, run_underlying hu]
        · exact absurd rfl hb
      | some ad =>
        rcases hb with ⟨hb, _⟩ | ⟨_, rfl⟩
        · cases hb
        · simp [Op.equalIn, run_underlying hu]
    exact key 9999
  rcases hop with ⟨rfl, rfl⟩ | ⟨rfl, rfl⟩
  · simp only [execOp, ho, he, h2, Sem.run_bind, hg, Result.andThen_ok, binOp, hr]; rfl
  · simp only [execOp, ho, he, h2, Sem.run_bind, hg, Result.andThen_ok, binOp, hr]; rfl

end Go.AX

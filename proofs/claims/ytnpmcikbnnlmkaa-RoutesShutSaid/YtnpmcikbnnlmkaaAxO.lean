import Derived.Test.YtnpmcikbnnlmkaaAxN
/-! Triples over abstract states. -/
namespace Go.AX
variable {P : Program}

/-- What a piece of code comes to, seen from (φ, st, w). -/
def RQ (A0 : Nat → Prop) (n0 m : Nat) (φ : Phi) (h : Hp) (w : World) (post : Exit → St → Prop) (e : Exit) (a' : Act) (w' : World) : Prop :=
  ∃ φ' st', post e st' ∧ Rel A0 n0 m φ' st' a' w' ∧ m ≤ st'.hp.length ∧ Tr m φ h w φ' st'.h w'

def T (P : Program) (m : Nat) (c : Code) (st : St) (post : Exit → St → Prop) : Prop :=
  ∀ A0 n0 φ a w, m ≤ st.hp.length → Rel A0 n0 m φ st a w → c.wp P (RQ A0 n0 m φ st.h w post) a w

theorem RQ.trans {A0 : Nat → Prop} {n0 m : Nat} {φ φ' : Phi} {h h' : Hp} {w w' : World} {post : Exit → St → Prop} {e : Exit} {a : Act} {w2 : World} (t : Tr m φ h w φ' h' w') (hq : RQ A0 n0 m φ' h' w' post e a w2) :
    RQ A0 n0 m φ h w post e a w2 := by
  obtain ⟨φ2, st2, h1, h2, h3, h4⟩ := hq
  exact ⟨φ2, st2, h1, h2, h3, t.trans h4⟩

theorem T.mono {m : Nat} {c : Code} {st : St} {post post' : Exit → St → Prop} (h : T P m c st post) (hp : ∀ e st, post e st → post' e st) : T P m c st post' :=
  fun A0 n0 φ a w hm hr => wp_mono (h A0 n0 φ a w hm hr) fun _ _ _ ⟨φ', st', h1, h2⟩ => ⟨φ', st', hp _ _ h1, h2⟩

def andThen (post : St → Prop) (other : Exit → St → Prop) (e : Exit) (st : St) : Prop :=
  match e with
  | .normal => post st
  | e => other e st

theorem T.seq {m : Nat} {c d : Code} {st : St} {post : Exit → St → Prop} (h : T P m c st (andThen (fun st' => T P m d st' post) post)) : T P m (.seq c d) st post := by
  intro A0 n0 φ a w hm hr
  refine wp_seq (wp_mono (h A0 n0 φ a w hm hr) fun e a' w' hq => ?_)
  obtain ⟨φ', st', h1, h2, h3, h4⟩ := hq
  cases e with
  | normal => exact wp_mono (h1 A0 n0 φ' a' w' h3 h2) fun e a w hq => hq.trans h4
  | _ => exact ⟨φ', st', h1, h2, h3, h4⟩

theorem T.skip {m : Nat} {st : St} {post : Exit → St → Prop} (h : post .normal st) : T P m .skip st post :=
  fun _ _ φ _ w hm hr => wp_skip ⟨φ, st, h, hr, hm, .refl m φ st.h w⟩
theorem T.ret {m : Nat} {st : St} {post : Exit → St → Prop} (h : post .ret st) : T P m .ret st post :=
  fun _ _ φ _ w hm hr => wp_ret ⟨φ, st, h, hr, hm, .refl m φ st.h w⟩
theorem T.exit {m id : Nat} {st : St} {post : Exit → St → Prop} (h : post (.exit id) st) : T P m (.exit id) st post :=
  fun _ _ φ _ w hm hr => wp_exit ⟨φ, st, h, hr, hm, .refl m φ st.h w⟩

def inBlk (id : Nat) (post : Exit → St → Prop) (e : Exit) (st : St) : Prop :=
  match e with
  | .exit id' => if id' = id then post .normal st else post (.exit id') st
  | e => post e st

theorem T.block {m id : Nat} {c : Code} {st : St} {post : Exit → St → Prop} (h : T P m c st (inBlk id post)) : T P m (.block id c) st post := by
  intro A0 n0 φ a w hm hr
  refine wp_block (wp_mono (h A0 n0 φ a w hm hr) fun e a' w' hq => ?_)
  obtain ⟨φ', st', h1, h2⟩ := hq
  cases e with
  | exit id' =>
    simp only [Exit.inBlock]
    simp only [inBlk] at h1
    split
    · rename_i he; rw [if_pos he] at h1; exact ⟨φ', st', h1, h2⟩
    · rename_i he; rw [if_neg he] at h1; exact ⟨φ', st', h1, h2⟩
  | _ => exact ⟨φ', st', h1, h2⟩

theorem T.cond {m : Nat} {x : Operand} {c d : Code} {st : St} {post : Exit → St → Prop} {b : Bool} (hx : st.ev x = .bool b) (h : T P m (if b then c else d) st post) : T P m (.cond x c d) st post := by
  intro A0 n0 φ a w hm hr
  have := hr.ev x
  rw [hx] at this
  exact wp_cond this.bool_inv (h A0 n0 φ a w hm hr)

theorem T.cond_true {m : Nat} {x : Operand} {c d : Code} {st : St} {post : Exit → St → Prop} (hx : st.ev x = .bool true) (h : T P m c st post) : T P m (.cond x c d) st post := T.cond hx (by simpa using h)
theorem T.cond_false {m : Nat} {x : Operand} {c d : Code} {st : St} {post : Exit → St → Prop} (hx : st.ev x = .bool false) (h : T P m d st post) : T P m (.cond x c d) st post := T.cond hx (by simpa using h)
theorem T.cond_split {m : Nat} {x : Operand} {c d : Code} {st : St} {post : Exit → St → Prop} {b : Bool} (hx : st.ev x = .bool b) (h1 : b = true → T P m c st post) (h2 : b = false → T P m d st post) : T P m (.cond x c d) st post := by
  cases b
  · exact T.cond_false hx (h2 rfl)
  · exact T.cond_true hx (h1 rfl)

/-! Renaming: blocks that nobody names any more end, the others get new numbers. -/

def idxN : List Nat → Nat → Option Nat
  | [], _ => none
  | x :: r, b => match Nat.beq x b with
    | true => some 0
    | false => match idxN r b with
      | some k => some (k + 1)
      | none => none

/-- A slice of a local block under new numbers 'σ'; the blocks 'fz' become values for good. With what must hold for it. -/
def renS (σ fz : List Nat) (hp : List (Option Blk)) (b i n : Nat) : Option (AV × Prop) :=
  match idxN σ b with
  | some k => some (.sl k i n, True)
  | none => match memN fz b, nth hp b with
    | true, some blk => match blk.flat with
      | true => match i with
        | 0 => some (.lst blk.es, n = blk.es.length)
        | i => some (.lst ((blk.es.drop i).take n), i + n ≤ blk.es.length)
      | false => none
    | _, _ => none

def renV (σ fz : List Nat) (hp : List (Option Blk)) : Nat → AV → AV × Prop
  | 0, _ => (.unk, True)
  | d + 1, v =>
    match v with
    | .ptr b i j => match idxN σ b with | some k => (.ptr k i j, True) | none => (.unk, True)
    | .sl b i n => match renS σ fz hp b i n with | some x => x | none => (.unk, True)
    | .agg cs => (.agg (cs.map fun c => (renV σ fz hp d c).1), (cs.map fun c => (renV σ fz hp d c).2).foldr And True)
    | .tup cs => (.tup (cs.map fun c => (renV σ fz hp d c).1), (cs.map fun c => (renV σ fz hp d c).2).foldr And True)
    | .fn f cs => (.fn f (cs.map fun c => (renV σ fz hp d c).1), (cs.map fun c => (renV σ fz hp d c).2).foldr And True)
    | v => (v, True)

def mapO {α β : Type} (f : α → Option β) : List α → Option (List β)
  | [] => some []
  | x :: r => match f x, mapO f r with
    | some y, some l => some (y :: l)
    | _, _ => none

/-- A cell of a block, renamed. -/
def renC (σ fz : List Nat) (hp : List (Option Blk)) : AV → Option (AV × Prop)
  | .ptr b i j => match idxN σ b with | some k => some (.ptr k i j, True) | none => none
  | .sl b i n => renS σ fz hp b i n
  | .fn _ _ => none
  | v => some (v, True)

def renE (σ fz : List Nat) (hp : List (Option Blk)) (e : AV) : Option (AV × Prop) :=
  match e with
  | .agg cs => match mapO (renC σ fz hp) cs with | some l => some (.agg (l.map (·.1)), (l.map (·.2)).foldr And True) | none => none
  | v => renC σ fz hp v

def renB (σ fz : List Nat) (hp : List (Option Blk)) (blk : Blk) : Option (Blk × Prop) :=
  match blk.flat with
  | true => some (blk, True)
  | false => match mapO (renE σ fz hp) blk.es with
    | some es => some ({ blk with es := es.map (·.1), flat := norefE (es.map (·.1)) }, (es.map (·.2)).foldr And True)
    | none => none

def renH (σ fz : List Nat) (hp : List (Option Blk)) : Option (List (Option Blk × Prop)) :=
  mapO (fun b => match nth hp b with
    | some blk => match renB σ fz hp blk with
      | some x => some (some x.1, x.2)
      | none => none
    | none => some (none, True)) σ

def renPhi (σ : List Nat) (φ : Phi) : Phi := fun k => match σ[k]? with
  | some b => φ b
  | none => none

theorem idxN_spec {σ : List Nat} {b k : Nat} (h : idxN σ b = some k) : σ[k]? = some b := by
  induction σ generalizing k with
  | nil => simp [idxN] at h
  | cons x r ih =>
    simp only [idxN] at h
    split at h
    · rename_i he; have := Nat.eq_of_beq_eq_true he; subst this; cases h; rfl
    · split at h
      · rename_i k' hk; cases h; simpa using ih hk
      · cases h

theorem renPhi_idx {σ : List Nat} {φ : Phi} {b k : Nat} (h : idxN σ b = some k) : renPhi σ φ k = φ b := by
  simp [renPhi, idxN_spec h]

theorem RT.agg_inv {A : Nat → Prop} {w : World} {cs : List AV} {v : Value} (h : RT A w (.agg cs) v) : ∃ vs : List Value, v = .agg vs.toArray ∧ vs.length = cs.length ∧ ∀ (i : Nat) c u, cs[i]? = some c → vs[i]? = some u → RT A w c u := by
  cases h with | agg cs vs hl h => exact ⟨vs, rfl, hl, h⟩

theorem allP {l : List Prop} : l.foldr And True → ∀ p ∈ l, p := by
  induction l with
  | nil => intro _ p hp; simp at hp
  | cons x r ih =>
    intro h p hp
    rcases List.mem_cons.1 hp with rfl | hp
    · exact h.1
    · exact ih h.2 p hp

/-- What 'Ren' knows. -/
structure RenK (φ : Phi) (A A' : Nat → Prop) (w : World) (hp : List (Option Blk)) (fz : List Nat) : Prop where
  sub : ∀ r, A r → A' r
  fz : ∀ b blk, b ∈ fz → nth hp b = some blk → ∀ r z, φ b = some (r, z) → A' r
  heap : HR φ A w (nth hp)

theorem VR.noref_rt {φ : Phi} {A : Nat → Prop} {w : World} {c : AV} {u : Value} (h : VR φ A w c u) (hn : c.noref = true) : RT A w c u := by
  cases h <;> simp_all [AV.noref]

theorem VR.lst_mk {φ : Phi} {A : Nat → Prop} {w : World} {es : List AV} {r o cap z : Nat} {cs : Array Value} {T : TypeId} (hr : w.heap[r]? = some (.cells cs T (0, 0))) (hA : A r) (hcap : es.length ≤ cap) (hno : Noref es)
    (hc : ∀ (i : Nat) e, es[i]? = some e → e.cells.length = z ∧ ∀ (j : Nat) c, e.cells[j]? = some c → c.one = true ∧ ∃ u, cs[o + i * z + j]? = some u ∧ VR φ A w c u) :
    RT A w (.lst es) (.slice (some ⟨r, o, none⟩) es.length cap) := by
  refine .lst es r o cap z (fun i j => cs.getD (o + i * z + j) undef) hcap (fun _ => hA) (fun e he => ?_) (fun e he c hcm => ?_) (fun i j hi hj => ?_) fun i j e c he hj => ?_
  · obtain ⟨i, hi⟩ := List.getElem?_of_mem he; exact (hc i e hi).1
  · obtain ⟨i, hi⟩ := List.getElem?_of_mem he
    obtain ⟨j, hj⟩ := List.getElem?_of_mem hcm
    exact ((hc i e hi).2 j c hj).1
  · have he : es[i]? = some es[i] := by simp [hi]
    obtain ⟨h1, h2⟩ := hc i _ he
    have hj' : j < es[i].cells.length := by omega
    obtain ⟨_, u, hu, _⟩ := h2 j _ (List.getElem?_eq_getElem hj')
    rw [cell_of_row w r _ cs T (0, 0) hr]
    simp [hu]
  · obtain ⟨_, u, hu, hv⟩ := (hc i e he).2 j c hj
    have := hv.noref_rt (hno e (List.mem_of_getElem? he) c (List.mem_of_getElem? hj))
    simpa [hu] using this

theorem renS_spec {φ : Phi} {A A' : Nat → Prop} {w : World} {σ fz : List Nat} {hp : List (Option Blk)} {b i n : Nat} {x : AV × Prop} {v : Value} (hk : RenK φ A A' w hp fz)
    (h : renS σ fz hp b i n = some x) (hx : x.2) (hv : VR φ A w (.sl b i n) v) : x.1.one = true ∧ VR (renPhi σ φ) A' w x.1 v := by
  unfold renS at h
  split at h
  · rename_i k hki
    cases h
    refine ⟨rfl, ?_⟩
    rcases hv.sl_inv with ⟨rfl, a, rfl⟩ | ⟨r, z, cap, hb, hn, hr, rfl⟩
    · exact .slnil k i a
    · exact .sl k i n r z cap (by rw [renPhi_idx hki]; exact hb) hn hr
  · split at h
    case h_2 => cases h
    rename_i blk hfz hblk
    have hfz := memN_iff.1 hfz
    split at h
    case h_2 => cases h
    rename_i hflat
    have hno := hk.heap.flat b blk hblk hflat
    have main : ∀ (es : List AV), es = (blk.es.drop i).take n → i + n ≤ blk.es.length → VR (renPhi σ φ) A' w (.lst es) v := by
      intro es hes hle
      have hlen : es.length = n := by rw [hes]; simp; omega
      rcases hv.sl_inv with ⟨rfl, a, rfl⟩ | ⟨r, z, cap, hb, hn, hr, rfl⟩
      · have : es = [] := List.eq_nil_of_length_eq_zero hlen
        subst this
        exact .imm _ _ (.lnil a)
      · obtain ⟨hz, cs, T, hrr, hsz, hrow⟩ := hk.heap.row hblk hb
        have hA := hk.fz b blk hfz hblk r z hb
        rw [← hlen]
        refine .imm _ _ (VR.lst_mk (φ := φ) (z := z) hrr hA (by omega) ?_ fun k e he => ?_)
        · rw [hes]; exact fun e he => hno e (List.mem_of_mem_drop (List.mem_of_mem_take he))
        · rw [hes, List.getElem?_take] at he
          split at he
          · rw [List.getElem?_drop] at he
            obtain ⟨g1, g2⟩ := hrow.cell _ e he
            refine ⟨g1, fun j c hj => ?_⟩
            obtain ⟨g3, u, g4, g5⟩ := g2 j c hj
            refine ⟨g3, u, ?_, g5.mono (fun _ _ h => h) hk.sub (fun _ _ => rfl) (fun _ => Nat.le_refl _)⟩
            rw [List.getElem?_take] at g4
            split at g4
            · rw [← Nat.add_mul]; simpa using g4
            · cases g4
          · cases he
    split at h
    · cases h
      exact ⟨rfl, main _ (by simp only [List.drop_zero]; exact (List.take_of_length_le (by simp at hx; omega)).symm) (by simp at hx; omega)⟩
    · cases h
      exact ⟨rfl, main _ rfl hx⟩

theorem VR.ren {φ : Phi} {A A' : Nat → Prop} {w : World} {σ fz : List Nat} {hp : List (Option Blk)} (hk : RenK φ A A' w hp fz) : ∀ (d : Nat) (a : AV) (v : Value), VR φ A w a v → (renV σ fz hp d a).2 → VR (renPhi σ φ) A' w (renV σ fz hp d a).1 v := by
  intro d
  induction d with
  | zero => intro a v _ _; exact .imm _ _ (.unk v)
  | succ d ih =>
    intro a v h hp2
    have kids : ∀ (cs : List AV) (vs : List Value), (cs.map fun c => (renV σ fz hp d c).2).foldr And True → (∀ (i : Nat) c u, cs[i]? = some c → vs[i]? = some u → VR φ A w c u) →
        ∀ (i : Nat) c u, (cs.map fun c => (renV σ fz hp d c).1)[i]? = some c → vs[i]? = some u → VR (renPhi σ φ) A' w c u := by
      intro cs vs hall hh i c u hc hu
      simp only [List.getElem?_map, Option.map_eq_some_iff] at hc
      obtain ⟨c0, hc0, rfl⟩ := hc
      exact ih c0 u (hh i c0 u hc0 hu) (allP hall _ (List.mem_map.2 ⟨c0, List.mem_of_getElem? hc0, rfl⟩))
    cases a with
    | ptr b i j =>
      obtain ⟨r, z, hb, rfl⟩ := h.ptr_inv
      simp only [renV]
      cases hki : idxN σ b with
      | none => exact .imm _ _ (.unk _)
      | some k => exact .ptr k i j r z (by rw [renPhi_idx hki]; exact hb)
    | sl b i n =>
      simp only [renV] at hp2 ⊢
      cases hs : renS σ fz hp b i n with
      | none => exact .imm _ _ (.unk _)
      | some x => rw [hs] at hp2; exact (renS_spec hk hs hp2 h).2
    | agg cs => obtain ⟨vs, rfl, hl, hh⟩ := h.agg_inv; exact .agg _ _ (by simpa using hl) (kids cs vs hp2 hh)
    | tup cs => obtain ⟨vs, rfl, hl, hh⟩ := h.tup_inv; exact .tup _ _ (by simpa using hl) (kids cs vs hp2 hh)
    | fn f cs => obtain ⟨vs, rfl, hl, hh⟩ := h.fn_inv; exact .fn f _ _ (by simpa using hl) (kids cs vs hp2 hh)
    | _ => cases h with | imm a v h => exact .imm _ _ (h.mono hk.sub (fun _ _ => rfl))

theorem mapO_spec {α β : Type} {f : α → Option β} : ∀ {l : List α} {l' : List β}, mapO f l = some l' → l'.length = l.length ∧ ∀ (i : Nat) y, l'[i]? = some y → ∃ x, l[i]? = some x ∧ f x = some y := by
  intro l
  induction l with
  | nil => intro l' h; simp [mapO] at h; subst h; simp
  | cons x r ih =>
    intro l' h
    simp only [mapO] at h
    split at h
    · rename_i y l0 hy hl
      cases h
      obtain ⟨h1, h2⟩ := ih hl
      refine ⟨by simp [h1], fun i z hz => ?_⟩
      cases i with
      | zero => simp at hz; subst hz; exact ⟨x, rfl, hy⟩
      | succ i => simpa using h2 i z (by simpa using hz)
    · cases h

theorem renC_spec {φ : Phi} {A A' : Nat → Prop} {w : World} {σ fz : List Nat} {hp : List (Option Blk)} (hk : RenK φ A A' w hp fz) {c : AV} {x : AV × Prop} {u : Value}
    (h : renC σ fz hp c = some x) (hx : x.2) (h1 : c.one = true) (hv : VR φ A w c u) : x.1.one = true ∧ VR (renPhi σ φ) A' w x.1 u := by
  cases c with
  | ptr b i j =>
    simp only [renC] at h
    split at h
    · rename_i k hki
      cases h
      obtain ⟨r, z, hb, rfl⟩ := hv.ptr_inv
      exact ⟨rfl, .ptr k i j r z (by rw [renPhi_idx hki]; exact hb)⟩
    · cases h
  | sl b i n => exact renS_spec hk h hx hv
  | fn f cs => simp [renC] at h
  | agg cs => simp [AV.one] at h1
  | tup cs => simp [AV.one] at h1
  | unk => simp [AV.one] at h1
  | _ => simp only [renC, Option.some.injEq] at h; subst h; exact ⟨h1, by cases hv with | imm a v h => exact .imm _ _ (h.mono hk.sub (fun _ _ => rfl))⟩

theorem renS_one {σ fz : List Nat} {hp : List (Option Blk)} {b i n : Nat} {x : AV × Prop} (h : renS σ fz hp b i n = some x) : x.1.one = true := by
  unfold renS at h
  split at h
  · cases h; rfl
  · split at h
    case h_2 => cases h
    split at h
    case h_2 => cases h
    split at h <;> (cases h; rfl)

theorem renC_one {σ fz : List Nat} {hp : List (Option Blk)} {c : AV} {x : AV × Prop} (h : renC σ fz hp c = some x) (h1 : c.one = true) : x.1.one = true := by
  cases c with
  | ptr b i j => simp only [renC] at h; split at h <;> cases h; rfl
  | sl b i n => exact renS_one h
  | fn f cs => simp [renC] at h
  | agg cs => simp [AV.one] at h1
  | tup cs => simp [AV.one] at h1
  | unk => simp [AV.one] at h1
  | _ => simp only [renC, Option.some.injEq] at h; subst h; exact h1

theorem renE_spec {σ fz : List Nat} {hp : List (Option Blk)} {e : AV} {x : AV × Prop} (h : renE σ fz hp e = some x) (hx : x.2) (h1 : ∀ c ∈ e.cells, c.one = true) :
    x.1.cells.length = e.cells.length ∧ ∀ (j : Nat) c', x.1.cells[j]? = some c' → ∃ c y, e.cells[j]? = some c ∧ renC σ fz hp c = some y ∧ y.1 = c' ∧ y.2 := by
  have single : renC σ fz hp e = some x → e.cells = [e] → x.1.cells.length = e.cells.length ∧ ∀ (j : Nat) c', x.1.cells[j]? = some c' → ∃ c y, e.cells[j]? = some c ∧ renC σ fz hp c = some y ∧ y.1 = c' ∧ y.2 := by
    intro hr hv
    have hx1 : x.1.cells = [x.1] := one_cells (renC_one hr (h1 e (by rw [hv]; simp)))
    rw [hv, hx1]
    refine ⟨rfl, fun j c' hj => ?_⟩
    cases j with
    | zero => simp at hj; exact ⟨e, x, rfl, hr, hj, hx⟩
    | succ j => simp at hj
  cases e with
  | agg cs =>
    simp only [renE] at h
    split at h
    · rename_i l hl
      cases h
      obtain ⟨g1, g2⟩ := mapO_spec hl
      refine ⟨by simp [AV.cells, g1], fun j c' hj => ?_⟩
      simp only [AV.cells, List.getElem?_map, Option.map_eq_some_iff] at hj
      obtain ⟨y, hy, rfl⟩ := hj
      obtain ⟨c, hc, hcy⟩ := g2 j y hy
      exact ⟨c, y, hc, hcy, rfl, allP hx _ (List.mem_map.2 ⟨y, List.mem_of_getElem? hy, rfl⟩)⟩
    · cases h
  | _ => exact single h rfl

/-- The same real state, described anew. -/
def Ren (m : Nat) (st st' : St) : Prop :=
  ∀ A0 n0 φ a w, m ≤ st.hp.length → Rel A0 n0 m φ st a w → ∃ φ', Rel A0 n0 m φ' st' a w ∧ m ≤ st'.hp.length ∧ Tr m φ st.h w φ' st'.h w

theorem Ren.refl (m : Nat) (st : St) : Ren m st st := fun _ _ φ _ w hm h => ⟨φ, h, hm, .refl m φ _ w⟩

theorem Ren.trans {m : Nat} {a b c : St} (h : Ren m a b) (k : Ren m b c) : Ren m a c := fun A0 n0 φ ac w hm hr => by
  obtain ⟨φ1, h1, h2, h3⟩ := h A0 n0 φ ac w hm hr
  obtain ⟨φ2, k1, k2, k3⟩ := k A0 n0 φ1 ac w h2 h1
  exact ⟨φ2, k1, k2, h3.trans k3⟩

theorem T.ren {m : Nat} {c : Code} {st st' : St} {post : Exit → St → Prop} (h : Ren m st st') (ht : T P m c st' post) : T P m c st post := fun A0 n0 φ a w hm hr => by
  obtain ⟨φ1, h1, h2, h3⟩ := h A0 n0 φ a w hm hr
  exact wp_mono (ht A0 n0 φ1 a w h2 h1) fun e a' w' hq => hq.trans h3

def nodupN : List Nat → Bool
  | [] => true
  | x :: r => !memN r x && nodupN r

def initN : Nat → Nat → List Nat → Bool
  | 0, _, _ => true
  | _ + 1, _, [] => false
  | m + 1, i, x :: r => Nat.beq x i && initN m (i + 1) r

theorem nodupN_spec : ∀ {l : List Nat}, nodupN l = true → ∀ (i j x : Nat), l[i]? = some x → l[j]? = some x → i = j := by
  intro l
  induction l with
  | nil => intro _ i j x h; simp at h
  | cons y r ih =>
    intro h i j x hi hj
    simp only [nodupN, Bool.and_eq_true, Bool.not_eq_true'] at h
    have hy : y ∉ r := fun hm => by rw [memN_iff.2 hm] at h; cases h.1
    cases i with
    | zero =>
      cases j with
      | zero => rfl
      | succ j => simp at hi hj; subst hi; exact absurd (List.mem_of_getElem? hj) hy
    | succ i =>
      cases j with
      | zero => simp at hi hj; subst hj; exact absurd (List.mem_of_getElem? hi) hy
      | succ j => simp at hi hj; rw [ih h.2 i j x hi hj]

theorem initN_spec : ∀ {m i : Nat} {l : List Nat}, initN m i l = true → ∀ k, k < m → l[k]? = some (i + k) := by
  intro m
  induction m with
  | zero => intro i l _ k hk; omega
  | succ m ih =>
    intro i l h k hk
    cases l with
    | nil => simp [initN] at h
    | cons x r =>
      simp only [initN, Bool.and_eq_true] at h
      cases k with
      | zero => have := Nat.eq_of_beq_eq_true h.1; simp [this]
      | succ k => have := ih h.2 k (by omega); simp [this]; omega

def St.ren (st : St) (σ fz vars : List Nat) : Option (St × Prop) :=
  match renH σ fz st.hp with
  | some hp => some ({ n := st.n, fr := vars.map fun s => (s, (renV σ fz st.hp 3 (look st.fr s)).1), hp := hp.map (·.1) },
      (vars.map fun s => (renV σ fz st.hp 3 (look st.fr s)).2).foldr And ((hp.map (·.2)).foldr And True))
  | none => none

theorem look_map (f : Nat → AV) : ∀ (vars : List Nat) (s : Nat), look (vars.map fun s => (s, f s)) s = .unk ∨ look (vars.map fun s => (s, f s)) s = f s := by
  intro vars
  induction vars with
  | nil => intro s; exact .inl rfl
  | cons x r ih =>
    intro s
    simp only [List.map_cons, look]
    cases hb : Nat.beq x s with
    | true => have := Nat.eq_of_beq_eq_true hb; subst this; exact .inr rfl
    | false => exact ih s

theorem foldr_and {l : List Prop} {p : Prop} (h : l.foldr And p) : (∀ q ∈ l, q) ∧ p := by
  induction l with
  | nil => exact ⟨fun q hq => by simp at hq, h⟩
  | cons x r ih =>
    obtain ⟨h1, h2⟩ := ih h.2
    exact ⟨fun q hq => (List.mem_cons.1 hq).elim (fun e => by rw [e]; exact h.1) (h1 q), h2⟩

theorem mem_vars {f : Nat → AV} : ∀ {vars : List Nat} {s : Nat}, look (vars.map fun s => (s, f s)) s ≠ .unk → s ∈ vars := by
  intro vars
  induction vars with
  | nil => intro s h; exact absurd rfl h
  | cons x r ih =>
    intro s h
    simp only [List.map_cons, look] at h
    cases hb : Nat.beq x s with
    | true => have := Nat.eq_of_beq_eq_true hb; subst this; simp
    | false => rw [hb] at h; exact List.mem_cons_of_mem _ (ih h)

theorem Ren.of {m : Nat} {st st' : St} {p : Prop} (σ fz vars : List Nat) (h : st.ren σ fz vars = some (st', p)) (hp : p) (hn : nodupN σ = true) (hi : initN m 0 σ = true)
    (hfz : fz.all (fun b => Nat.ble m b && !memN σ b) = true) : Ren m st st' := by
  intro A0 n0 φ a w hm hr
  unfold St.ren at h
  split at h
  case h_2 => cases h
  rename_i hpl hh
  simp only [Option.some.injEq, Prod.mk.injEq] at h
  obtain ⟨rfl, rfl⟩ := h
  obtain ⟨hp1, hp2⟩ := foldr_and hp
  have hp2 := allP hp2
  obtain ⟨hlen, hsp⟩ := mapO_spec hh
  have hml : m ≤ σ.length := by
    rcases Nat.lt_or_ge σ.length m with h | h
    · have := initN_spec hi σ.length h
      simp at this
    · exact h
  have hfirst : ∀ b, b < m → σ[b]? = some b := fun b hb => by have := initN_spec hi b hb; simpa using this
  have hbig : ∀ (k b : Nat), m ≤ k → σ[k]? = some b → m ≤ b := fun k b hk hb => by
    rcases Nat.lt_or_ge b m with h | h
    · have := nodupN_spec hn b k b (hfirst b h) hb; omega
    · exact h
  have hlive : ∀ k blk', nth (hpl.map (·.1)) k = some blk' → ∃ b blk y, σ[k]? = some b ∧ st.h b = some blk ∧ renB σ fz st.hp blk = some y ∧ y.1 = blk' ∧ y.2 := by
    intro k blk' hk
    rw [nth_eq] at hk
    cases hq : hpl[k]? with
    | none => simp [hq] at hk
    | some ob =>
      simp [hq] at hk
      obtain ⟨b, hb, hf⟩ := hsp k _ hq
      split at hf
      · rename_i blk hblk
        split at hf
        · rename_i y hy
          cases hf
          simp at hk
          exact ⟨b, blk, y, hb, hblk, hy, hk, hp2 _ (List.mem_map.2 ⟨_, List.mem_of_getElem? hq, rfl⟩)⟩
        · cases hf
      · cases hf; simp at hk
  have hwr : ∀ {blk y}, renB σ fz st.hp blk = some y → y.1.wr = blk.wr ∧ y.1.z = blk.z := by
    intro blk y h
    unfold renB at h
    split at h
    · cases h; exact ⟨rfl, rfl⟩
    · split at h
      · cases h; exact ⟨rfl, rfl⟩
      · cases h
  have hphi : ∀ k b, σ[k]? = some b → renPhi σ φ k = φ b := fun k b hk => by simp [renPhi, hk]
  have hmutb : ∀ r, Mut (renPhi σ φ) (nth (hpl.map (·.1))) r → ∃ (k b : Nat) (blk : Blk) (z : Nat), σ[k]? = some b ∧ st.h b = some blk ∧ blk.wr = true ∧ φ b = some (r, z) := by
    rintro r ⟨k, blk', z, hk, hw, hφ⟩
    obtain ⟨b, blk, y, hb, hblk, hrb, rfl, _⟩ := hlive k blk' hk
    rw [hphi k b hb] at hφ
    exact ⟨k, b, blk, z, hb, hblk, by rw [← (hwr hrb).1]; exact hw, hφ⟩
  have hmut : ∀ r, Mut (renPhi σ φ) (nth (hpl.map (·.1))) r → Mut φ st.h r := fun r h => by
    obtain ⟨k, b, blk, z, _, g2, g3, g4⟩ := hmutb r h
    exact ⟨b, blk, z, g2, g3, g4⟩
  have hK : RenK φ (Ok A0 n0 φ st.h w) (Ok A0 n0 (renPhi σ φ) (nth (hpl.map (·.1))) w) w st.hp fz := by
    refine ⟨fun r h => ⟨h.1, h.2.1, fun hm => h.2.2 (hmut r hm)⟩, fun b blk hb hblk r z hφ => ?_, hr.heap⟩
    have hb2 := List.all_eq_true.1 hfz b hb
    simp only [Bool.and_eq_true, Bool.not_eq_true'] at hb2
    refine ⟨.inr (hr.own b r z (Nat.le_of_ble_eq_true hb2.1) hφ), ?_, fun hmm => ?_⟩
    · rcases hr.heap.blk b blk hblk with ⟨_, h0, _⟩ | ⟨r', cs, T, h1, h2, _⟩
      · rw [hφ] at h0; cases h0
      · rw [hφ] at h1; simp at h1; rw [h1.1]; exact (Array.getElem?_eq_some_iff.1 h2).1
    · obtain ⟨k, b', blk', z', g1, g2, _, g4⟩ := hmutb r hmm
      have := hr.heap.inj b b' r _ _ (by show (nth st.hp b).isSome = true; simp [hblk]) (by simp [g2]) hφ g4
      subst this
      have := memN_iff.2 (List.mem_of_getElem? g1)
      rw [this] at hb2; cases hb2.2
  have mono : ∀ {c u}, RT (Ok A0 n0 φ st.h w) w c u → VR (renPhi σ φ) (Ok A0 n0 (renPhi σ φ) (nth (hpl.map (·.1))) w) w c u := fun h => .imm _ _ (h.mono hK.sub (fun _ _ => rfl))
  refine ⟨renPhi σ φ, ⟨hr.defs, hr.size, fun s => ?_, ⟨fun k blk' hk => ?_, fun k blk' hk hfl => ?_, fun k k' r z z' hk hk' h1 h2 => ?_⟩, fun b hb => ?_, hr.base, fun k r z hk hφ => ?_⟩, ?_, ⟨fun b hb => ?_, Keep.refl _ w, fun r h => .inl (hmut r h)⟩⟩
  · show VR _ _ _ (look (vars.map fun s => (s, (renV σ fz st.hp 3 (look st.fr s)).1)) s) _
    rcases look_map (fun s => (renV σ fz st.hp 3 (look st.fr s)).1) vars s with h | h
    · rw [h]; exact .imm _ _ (.unk _)
    · by_cases hu : look (vars.map fun s => (s, (renV σ fz st.hp 3 (look st.fr s)).1)) s = .unk
      · rw [hu]; exact .imm _ _ (.unk _)
      · have hs := mem_vars hu
        rw [h]
        exact VR.ren hK 3 _ _ (hr.slot s) (hp1 _ (List.mem_map.2 ⟨s, hs, rfl⟩))
  · obtain ⟨b, blk, y, hb, hblk, hrb, rfl, hy2⟩ := hlive k blk' hk
    have hw2 := hwr hrb
    rcases hr.heap.blk b blk hblk with ⟨g1, g2, g3⟩ | ⟨r, cs, T, g1, g2, g3, g4⟩
    · left
      refine ⟨?_, by rw [hphi k b hb]; exact g2, by rw [hw2.1]; exact g3⟩
      unfold renB at hrb
      split at hrb
      · cases hrb; exact g1
      · rw [g1] at hrb; simp [mapO] at hrb; rw [← hrb]
    · right
      refine ⟨r, cs, T, by rw [hphi k b hb, hw2.2]; exact g1, g2, ?_, fun i e' he' => ?_⟩
      · rw [hw2.2]
        unfold renB at hrb
        split at hrb
        · cases hrb; exact g3
        · split at hrb
          · rename_i es hes; cases hrb; simp only [List.length_map]; rw [(mapO_spec hes).1]; exact g3
          · cases hrb
      · rw [hw2.2]
        unfold renB at hrb
        split at hrb
        · rename_i hflat
          cases hrb
          obtain ⟨k1, k2⟩ := g4 i e' he'
          refine ⟨k1, fun j c hj => ?_⟩
          obtain ⟨k3, u, k4, k5⟩ := k2 j c hj
          have hno := hr.heap.flat b _ hblk hflat e' (List.mem_of_getElem? he') c (List.mem_of_getElem? hj)
          exact ⟨k3, u, k4, mono (k5.noref_rt hno)⟩
        · split at hrb
          · rename_i es hes
            cases hrb
            simp only [List.getElem?_map, Option.map_eq_some_iff] at he'
            obtain ⟨x, hxe, rfl⟩ := he'
            obtain ⟨e, he, hre⟩ := (mapO_spec hes).2 i x hxe
            have hx2 := allP hy2 _ (List.mem_map.2 ⟨x, List.mem_of_getElem? hxe, rfl⟩)
            obtain ⟨k1, k2⟩ := g4 i e he
            have hones : ∀ c ∈ e.cells, c.one = true := fun c hc => by
              obtain ⟨j, hj⟩ := List.getElem?_of_mem hc; exact (k2 j c hj).1
            obtain ⟨r1, r2⟩ := renE_spec hre hx2 hones
            refine ⟨by rw [r1]; exact k1, fun j c' hj => ?_⟩
            obtain ⟨c, y, hc, hcc, rfl, hy⟩ := r2 j c' hj
            obtain ⟨k3, u, k4, k5⟩ := k2 j c hc
            obtain ⟨q1, q2⟩ := renC_spec hK hcc hy k3 k5
            exact ⟨q1, u, k4, q2⟩
          · cases hrb
  · obtain ⟨b, blk, y, hb, hblk, hrb, rfl, hy2⟩ := hlive k blk' hk
    unfold renB at hrb
    split at hrb
    · rename_i hf; cases hrb; exact hr.heap.flat b _ hblk hf
    · split at hrb
      · cases hrb; exact norefE_spec _ hfl
      · cases hrb
  · obtain ⟨blk, hb⟩ := Option.isSome_iff_exists.1 hk
    obtain ⟨blk2, hb2⟩ := Option.isSome_iff_exists.1 hk'
    obtain ⟨b1, q1, _, g1, g2, _⟩ := hlive k blk hb
    obtain ⟨b2, q2, _, g3, g4, _⟩ := hlive k' blk2 hb2
    rw [hphi k b1 g1] at h1
    rw [hphi k' b2 g3] at h2
    have := hr.heap.inj b1 b2 r z z' (by simp [g2]) (by simp [g4]) h1 h2
    subst this
    exact nodupN_spec hn k k' b1 g1 g3
  · have hb' : σ.length ≤ b := by simpa [hlen] using hb
    simp only [renPhi]
    rw [List.getElem?_eq_none hb']
  · simp only [renPhi] at hφ
    split at hφ
    · rename_i b hb; exact hr.own b r z (hbig k b hk hb) hφ
    · cases hφ
  · show m ≤ (hpl.map (·.1)).length
    rw [List.length_map, hlen]; exact hml
  · exact hphi b b (hfirst b hb)

/-- A loop: a family of states, a number that falls. -/
theorem T.loop {ι : Type} {m : Nat} {c : Code} {post : Exit → St → Prop} (S : ι → St) (I : ι → Prop) (μ : ι → Nat) (i : ι) (hi : I i)
    (round : ∀ i, I i → T P m c (S i) (andThen (fun st' => ∃ j, Ren m st' (S j) ∧ I j ∧ μ j < μ i) post)) : T P m (.loop c) (S i) post := by
  intro A0 n0 φ0 a0 w0 hm0 hr0
  intro b k cs
  have key : ∀ n i φ a w, μ i = n → I i → m ≤ (S i).hp.length → Rel A0 n0 m φ (S i) a w →
      ∃ e a' w', RQ A0 n0 m φ (S i).h w post e a' w' ∧ Arrives P (lone (b.at a (.code c :: .inLoop c :: k)) cs w) b k cs e a' w' := by
    intro n
    induction n using Nat.strongRecOn with
    | _ n ih =>
      intro i φ a w hn hI hm hr
      obtain ⟨e, a1, w1, hq, harr⟩ := round i hI A0 n0 φ a w hm hr b (.inLoop c :: k) cs
      obtain ⟨φ1, st1, h1, h2, h3, h4⟩ := hq
      cases e with
      | normal =>
        obtain ⟨j, hren, hj, hlt⟩ := h1
        obtain ⟨φ2, g1, g2, g3⟩ := hren A0 n0 φ1 a1 w1 h3 h2
        obtain ⟨e2, a2, w2, hq2, harr2⟩ := ih (μ j) (hn ▸ hlt) j φ2 a1 w1 rfl hj g2 g1
        exact ⟨e2, a2, w2, hq2.trans (h4.trans g3), .of_steps (Steps.trans harr (.one step_inLoop)) harr2⟩
      | exit id => exact ⟨_, a1, w1, ⟨φ1, st1, h1, h2, h3, h4⟩, .pass (x := .inLoop c) rfl (fun _ _ => .inl (by simp)) harr⟩
      | goto l => exact ⟨_, a1, w1, ⟨φ1, st1, h1, h2, h3, h4⟩, .pass (x := .inLoop c) rfl (fun _ _ => .inl (by simp)) harr⟩
      | ret => exact ⟨_, a1, w1, ⟨φ1, st1, h1, h2, h3, h4⟩, .pass (x := .inLoop c) rfl (fun _ _ => .inl (by simp)) harr⟩
      | panic ch => exact ⟨_, a1, w1, ⟨φ1, st1, h1, h2, h3, h4⟩, .pass (x := .inLoop c) rfl (fun _ _ => .inl (by simp)) harr⟩
      | outgrown => exact ⟨_, a1, w1, ⟨φ1, st1, h1, h2, h3, h4⟩, .pass (x := .inLoop c) rfl (fun _ _ => .inl (by simp)) harr⟩
  obtain ⟨e, a', w', hq, harr⟩ := key _ i φ0 a0 w0 rfl hi hm0 hr0
  exact ⟨e, a', w', hq, .of_steps (.one step_loop) harr⟩


end Go.AX

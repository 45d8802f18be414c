import Derived.Test.YtnpmcikbnnlmkaaAxZa
/-! A nil slice may be told as an empty list. -/
namespace Go.AX
variable {P : Program}

def wk1 : AV → AV
  | .nils => .lst []
  | v => v

def wkV : AV → AV
  | .nils => .lst []
  | .tup cs => .tup (cs.map wk1)
  | v => v

theorem VR.wk1 {φ : Phi} {A : Nat → Prop} {w : World} {a : AV} {v : Value} (h : VR φ A w a v) : VR φ A w (wk1 a) v := by
  cases a <;> first | exact h | skip
  cases h with
  | imm _ _ h => cases h; exact .imm _ _ (.lnil none)

theorem VR.wk {φ : Phi} {A : Nat → Prop} {w : World} {a : AV} {v : Value} (h : VR φ A w a v) : VR φ A w (wkV a) v := by
  cases a <;> first | exact h | skip
  · exact h.wk1
  · cases h with
    | imm _ _ h => cases h
    | tup cs vs hl h =>
      refine .tup _ vs (by simpa using hl) fun i c v hc hv => ?_
      rw [List.getElem?_map] at hc
      obtain ⟨c', hc', rfl⟩ := Option.map_eq_some_iff.1 hc
      exact (h i c' v hc' hv).wk1

theorem CT.wk {f : FuncId} {hin hout : List (Option Blk)} {args : List AV} {res : AV} (h : CT P f hin args hout res) : CT P f hin args hout (wkV res) := by
  intro φ A w vs h1 h2 h3 h4 h5
  refine (h φ A w vs h1 h2 h3 h4 h5).mono fun e w' ⟨v, φ', he, cp⟩ => ⟨v, φ', he, { cp with val := cp.val.wk }⟩

theorem CT.to {f : FuncId} {hin hout : List (Option Blk)} {args args' : List AV} {res res' : AV} (h : CT P f hin args hout res) (ha : args = args') (hr : wkV res = res') : CT P f hin args' hout res' := by
  subst ha hr; exact h.wk

theorem CT.tos {f : FuncId} {hin hout : List (Option Blk)} {args args' : List AV} {res res' : AV} (h : CT P f hin args hout res) (ha : args = args') (hr : res = res') : CT P f hin args' hout res' := by
  subst ha hr; exact h

/-- A nil slice may be handed over where a list is told. -/
theorem CT.nilArgs {f : FuncId} {hin hout : List (Option Blk)} {args args' : List AV} {res : AV} (h : CT P f hin args' hout res) (ha : args.map wk1 = args') : CT P f hin args hout res := by
  subst ha
  intro φ A w vs h1 h2 h3 h4 h5
  refine h φ A w vs h1 h2 h3 (by simpa using h4) fun i c v hc hv => ?_
  rw [List.getElem?_map] at hc
  obtain ⟨c', hc', rfl⟩ := Option.map_eq_some_iff.1 hc
  exact (h5 i c' v hc' hv).wk1

def wkFr : List (Nat × AV) → List (Nat × AV)
  | [] => []
  | (s, v) :: r => (s, wk1 v) :: wkFr r

theorem look_wkFr : ∀ (fr : List (Nat × AV)) (s : Nat), look (wkFr fr) s = wk1 (look fr s) := by
  intro fr
  induction fr with
  | nil => intro s; rfl
  | cons x r ih =>
    intro s
    obtain ⟨t, v⟩ := x
    simp only [wkFr, look]
    split
    · rfl
    · exact ih s

/-- A state in which nil slices are told as empty lists. -/
def wkSt (st : St) : St := { st with fr := wkFr st.fr }

theorem T.nil {m : Nat} {c : Code} {st : St} {post : Exit → St → Prop} (h : T P m c (wkSt st) post) : T P m c st post := by
  refine T.ren (st' := wkSt st) (fun A0 n0 φ a w hm hr => ⟨φ, ⟨hr.defs, hr.size, fun s => ?_, hr.heap, hr.out, hr.base, hr.own⟩, hm, .refl m φ _ w⟩) h
  show VR φ _ w (look (wkFr st.fr) s) _
  rw [look_wkFr]
  exact (hr.slot s).wk1

/-- 'CT.path', the result by an equation. -/
theorem CT.pathS {f : FuncId} {fn : Func} {c : Code} {hin hout : List (Option Blk)} {args : List AV} {res res' : AV} {H : HT} {n : Nat} (hmix : P.follows .mixedOrders = true) (hf : P.funcs[f]? = some fn) (hb : fn.body = some c) (hn : args.length ≤ fn.ntmps)
    (h : ∃ o st' q, go P H hin.length n (.inl c) [] { n := fn.ntmps, fr := enumF 0 args, hp := hin } = some (o, st', q) ∧ q ∧ Rest P hin.length (Fin P fn hin.length hout res) st' o) (hr : res = res') : CT P f hin args hout res' :=
  (CT.path hmix hf hb hn h).tos rfl hr

/-- 'CT.path', a nil slice in the result told as an empty list. -/
theorem CT.pathW {f : FuncId} {fn : Func} {c : Code} {hin hout : List (Option Blk)} {args : List AV} {res res' : AV} {H : HT} {n : Nat} (hmix : P.follows .mixedOrders = true) (hf : P.funcs[f]? = some fn) (hb : fn.body = some c) (hn : args.length ≤ fn.ntmps)
    (h : ∃ o st' q, go P H hin.length n (.inl c) [] { n := fn.ntmps, fr := enumF 0 args, hp := hin } = some (o, st', q) ∧ q ∧ Rest P hin.length (Fin P fn hin.length hout res) st' o) (hr : wkV res = res') : CT P f hin args hout res' :=
  (CT.path hmix hf hb hn h).to rfl hr

end Go.AX

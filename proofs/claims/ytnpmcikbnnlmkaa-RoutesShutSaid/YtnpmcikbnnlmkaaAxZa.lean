import Derived.Test.YtnpmcikbnnlmkaaAxZ
/-! How a stretch may end. -/
namespace Go.AX
variable {P : Program}

def okRen (m : Nat) (σ fz : List Nat) : Bool := nodupN σ && initN m 0 σ && fz.all (fun b => Nat.ble m b && !memN σ b)

theorem okRen_spec {m : Nat} {σ fz vars : List Nat} {st st' : St} {p : Prop} (h : okRen m σ fz = true) (hr : st.ren σ fz vars = some (st', p)) (hp : p) : Ren m st st' := by
  simp only [okRen, Bool.and_eq_true] at h
  exact Ren.of σ fz vars hr hp h.1.1 h.1.2 h.2

/-- At a loop. -/
def endR (m : Nat) (σ fz vars : List Nat) : Option (Out × St × Prop) → Option (Code × List Kt × St × Prop)
  | some (.loop c k, st, p) => match okRen m σ fz, st.ren σ fz vars with
    | true, some (s, q) => some (c, k, s, p ∧ q)
    | _, _ => none
  | _ => none

theorem endR_spec {m : Nat} {σ fz vars : List Nat} {x : Option (Out × St × Prop)} {c : Code} {k : List Kt} {s : St} {p : Prop} {post : Exit → St → Prop} (h : endR m σ fz vars x = some (c, k, s, p)) (hp : p)
    (ht : T P m (.loop c) s (TK P m post k)) : ∃ o st q, x = some (o, st, q) ∧ q ∧ Rest P m post st o := by
  unfold endR at h
  split at h
  case h_2 => cases h
  rename_i c' k' st q
  split at h
  · rename_i s' q' h1 h2
    cases h
    exact ⟨_, _, _, rfl, hp.1, T.ren (okRen_spec h1 h2 hp.2) ht⟩
  · cases h

def isRet : Exit → Bool
  | .normal => true
  | .ret => true
  | _ => false

/-- At the end of the function. -/
def endF (P : Program) (fn : Func) (m : Nat) (σ fz : List Nat) : Option (Out × St × Prop) → Option (List (Option Blk) × AV × Prop)
  | some (.done e, st, p) => match isRet e && Nat.blt 0 st.n, resA P fn st with
    | true, some v => match okRen m σ fz, St.ren { st with fr := [(0, v)] } σ fz [0] with
      | true, some (s, q) => some (s.hp, look s.fr 0, p ∧ q)
      | _, _ => none
    | _, _ => none
  | _ => none

theorem endF_spec {fn : Func} {m : Nat} {σ fz : List Nat} {x : Option (Out × St × Prop)} {hout : List (Option Blk)} {res : AV} {p : Prop} (h : endF P fn m σ fz x = some (hout, res, p)) (hp : p) :
    ∃ o st q, x = some (o, st, q) ∧ q ∧ Rest P m (Fin P fn m hout res) st o := by
  unfold endF at h
  split at h
  case h_2 => cases h
  rename_i e st q
  split at h
  case h_2 => cases h
  rename_i v h1 h2
  split at h
  case h_2 => cases h
  rename_i s q' h3 h4
  cases h
  simp only [Bool.and_eq_true] at h1
  refine ⟨_, _, _, rfl, hp.1, ?_, v, s, h2, okRen_spec h3 h4 hp.2, rfl, rfl, Nat.le_of_ble_eq_true h1.2⟩
  cases e <;> simp [isRet] at h1 <;> simp

/-- At the end of a loop's round. -/
def endN (m : Nat) (σ fz vars : List Nat) : Option (Out × St × Prop) → Option (St × Prop)
  | some (.done .normal, st, p) => match okRen m σ fz, st.ren σ fz vars with
    | true, some (s, q) => some (s, p ∧ q)
    | _, _ => none
  | _ => none

theorem endN_spec {m : Nat} {σ fz vars : List Nat} {x : Option (Out × St × Prop)} {s : St} {p : Prop} {post : Exit → St → Prop} {R : St → Prop} (h : endN m σ fz vars x = some (s, p)) (hp : p) (hR : ∀ st, Ren m st s → R st) :
    ∃ o st q, x = some (o, st, q) ∧ q ∧ Rest P m (andThen R post) st o := by
  unfold endN at h
  split at h
  case h_2 => cases h
  rename_i st q
  split at h
  · rename_i s' q' h1 h2
    cases h
    exact ⟨_, _, _, rfl, hp.1, hR _ (okRen_spec h1 h2 hp.2)⟩
  · cases h

/-- Out of a loop's round and on. -/
def go2 (P : Program) (H : HT) (m n : Nat) (c : Code) (k : List Kt) (st : St) : Option (Out × St × Prop) :=
  match go P H m n (.inl c) [] st with
  | some (.done e, st', p) => match e with
    | .normal => none
    | e => conj p (go P H m n (.inr e) k st')
  | _ => none

theorem T.path {H : HT} {m n : Nat} {c : Code} {st : St} {post : Exit → St → Prop} (hmix : P.follows .mixedOrders = true) (h : ∃ o st' q, go P H m n (.inl c) [] st = some (o, st', q) ∧ q ∧ Rest P m post st' o) : T P m c st post := by
  obtain ⟨o, st', q, h1, h2, h3⟩ := h
  exact T.run hmix h1 h2 h3

theorem T.out {H : HT} {m n : Nat} {c : Code} {k : List Kt} {st : St} {post : Exit → St → Prop} {R : St → Prop} (hmix : P.follows .mixedOrders = true) (h : ∃ o st' q, go2 P H m n c k st = some (o, st', q) ∧ q ∧ Rest P m post st' o) :
    T P m c st (andThen R (TK P m post k)) := by
  obtain ⟨o, st', q, h1, h2, h3⟩ := h
  unfold go2 at h1
  split at h1
  case h_2 => cases h1
  rename_i e st1 p hg
  have key : ∀ {o : Out} {st' : St} {q : Prop}, conj p (go P H m n (.inr e) k st1) = some (o, st', q) → q → Rest P m post st' o → e ≠ .normal → T P m c st (andThen R (TK P m post k)) := by
    intro o st' q hc hq hr hne
    unfold conj at hc
    split at hc
    · rename_i o' s' q' hg2
      cases hc
      have h4 := go_sound hmix n (.inr e) k st1 _ _ _ hg2 hq.2 hr
      refine T.run hmix hg hq.1 ?_
      show andThen R (TK P m post k) e st1
      cases e <;> first | exact absurd rfl hne | exact h4
    · cases hc
  cases e <;> simp only at h1
  case normal => cases h1
  all_goals exact key h1 h2 h3 (by simp)

/-- A function by its body's paths. -/
theorem CT.path {f : FuncId} {fn : Func} {c : Code} {hin hout : List (Option Blk)} {args : List AV} {res : AV} {H : HT} {n : Nat} (hmix : P.follows .mixedOrders = true) (hf : P.funcs[f]? = some fn) (hb : fn.body = some c) (hn : args.length ≤ fn.ntmps)
    (h : ∃ o st' q, go P H hin.length n (.inl c) [] { n := fn.ntmps, fr := enumF 0 args, hp := hin } = some (o, st', q) ∧ q ∧ Rest P hin.length (Fin P fn hin.length hout res) st' o) : CT P f hin args hout res :=
  CT.of hf hb hn (T.path hmix h)

/-- The Int of a Nat, by name. -/
abbrev iN (n : Nat) : Int := n

def bodyOf (f : Func) : Code := f.body.getD .skip

def loopAt : Code → List Kt → List (Code × List Kt)
  | .seq a b, k => loopAt a (.code b :: k) ++ loopAt b k
  | .block id c, k => loopAt c (.blk id :: k)
  | .cond _ c d, k => loopAt c k ++ loopAt d k
  | .loop c, k => [(c, k)]
  | _, _ => []

def loopC (c : Code) (i : Nat) : Code := match (loopAt c [])[i]? with | some x => x.1 | none => .skip
def loopK (c : Code) (i : Nat) : List Kt := match (loopAt c [])[i]? with | some x => x.2 | none => []

end Go.AX

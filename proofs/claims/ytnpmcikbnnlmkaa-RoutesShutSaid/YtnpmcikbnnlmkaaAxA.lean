import Derived.WalkKit
import Derived.Orders
/-! Abstract values over the model's worlds, and what it means that a value of the model is described by one. -/
namespace Go.AX

inductive AV where
  | unk
  | bool (b : Bool)
  | int (k : IntKind) (n : Int)
  | str (s : ByteArray)
  | con (v : Value)
  | nils
  | lst (es : List AV)
  | iptr (cs : List AV)
  | ptr (b i j : Nat)
  | sl (b i n : Nat)
  | agg (cs : List AV)
  | tup (vs : List AV)
  | fn (f : FuncId) (caps : List AV)

def AV.cells : AV → List AV
  | .agg cs => cs
  | v => [v]

def AV.one : AV → Bool
  | .unk => false
  | .agg _ => false
  | .tup _ => false
  | _ => true

def AV.noref : AV → Bool
  | .ptr _ _ _ => false
  | .sl _ _ _ => false
  | .fn _ _ => false
  | .agg _ => false
  | .tup _ => false
  | _ => true

/-- No cell of these elements leads into a local block. -/
def Noref (es : List AV) : Prop := ∀ e ∈ es, ∀ c ∈ e.cells, c.noref = true

def norefL (cs : List AV) : Bool := cs.all AV.noref

structure Blk where
  es : List AV
  z : Nat
  flat : Bool := true
  wr : Bool := true

/-- A value without references into local blocks. 'A': the blocks in which what it shows may lie. -/
inductive RT (A : Nat → Prop) (w : World) : AV → Value → Prop
  | unk (v : Value) : RT A w .unk v
  | bool (b : Bool) : RT A w (.bool b) (.bool b)
  | int (k : IntKind) (n : Int) : RT A w (.int k n) (.int k n)
  | str (s : ByteArray) : RT A w (.str s) (.string s)
  | con (v : Value) (h : v.oneCell' = true) : RT A w (.con v) v
  | nils : RT A w .nils (.slice none 0 0)
  | agg (cs : List AV) (vs : List Value) (hl : vs.length = cs.length)
      (h : ∀ (i : Nat) c v, cs[i]? = some c → vs[i]? = some v → RT A w c v) : RT A w (.agg cs) (.agg vs.toArray)
  | lnil (a : Option Addr) : RT A w (.lst []) (.slice a 0 0)
  | lst (es : List AV) (r o cap z : Nat) (g : Nat → Nat → Value) (hcap : es.length ≤ cap) (hA : es ≠ [] → A r)
      (hz : ∀ e ∈ es, e.cells.length = z) (h1 : ∀ e ∈ es, ∀ c ∈ e.cells, c.one = true)
      (hc : ∀ i j, i < es.length → j < z → w.cell? ⟨r, o + i * z + j, none⟩ = some (g i j))
      (h : ∀ (i j : Nat) e c, es[i]? = some e → e.cells[j]? = some c → RT A w c (g i j)) :
      RT A w (.lst es) (.slice (some ⟨r, o, none⟩) es.length cap)
  | iptr (cs : List AV) (r o : Nat) (g : Nat → Value) (hA : cs ≠ [] → A r) (h1 : ∀ c ∈ cs, c.one = true)
      (hc : ∀ j, j < cs.length → w.cell? ⟨r, o + j, none⟩ = some (g j))
      (h : ∀ (j : Nat) c, cs[j]? = some c → RT A w c (g j)) :
      RT A w (.iptr cs) (.pointer (some ⟨r, o, none⟩))

abbrev Phi := Nat → Option (Nat × Nat)

def rowSize (w : World) (r : Nat) : Nat :=
  match w.heap[r]? with
  | some (.cells c _ _) => c.size
  | _ => 0

inductive VR (φ : Phi) (A : Nat → Prop) (w : World) : AV → Value → Prop
  | imm (a : AV) (v : Value) (h : RT A w a v) : VR φ A w a v
  | ptr (b i j r z : Nat) (hb : φ b = some (r, z)) : VR φ A w (.ptr b i j) (.pointer (some ⟨r, i * z + j, none⟩))
  | sl (b i n r z cap : Nat) (hb : φ b = some (r, z)) (hn : n ≤ cap) (hr : (i + cap) * z ≤ rowSize w r) :
      VR φ A w (.sl b i n) (.slice (some ⟨r, i * z, none⟩) n cap)
  | slnil (b i : Nat) (a : Option Addr) : VR φ A w (.sl b i 0) (.slice a 0 0)
  | agg (cs : List AV) (vs : List Value) (hl : vs.length = cs.length)
      (h : ∀ (i : Nat) c v, cs[i]? = some c → vs[i]? = some v → VR φ A w c v) : VR φ A w (.agg cs) (.agg vs.toArray)
  | tup (cs : List AV) (vs : List Value) (hl : vs.length = cs.length)
      (h : ∀ (i : Nat) c v, cs[i]? = some c → vs[i]? = some v → VR φ A w c v) : VR φ A w (.tup cs) (.tuple vs.toArray)
  | fn (f : FuncId) (cs : List AV) (vs : List Value) (hl : vs.length = cs.length)
      (h : ∀ (i : Nat) c v, cs[i]? = some c → vs[i]? = some v → VR φ A w c v) : VR φ A w (.fn f cs) (.func (.func f) #[] vs.toArray)

theorem RT.mono {A A' : Nat → Prop} {w w' : World} {a : AV} {v : Value} (h : RT A w a v)
    (hA : ∀ r, A r → A' r) (hw : ∀ r, A r → w'.heap[r]? = w.heap[r]?) : RT A' w' a v := by
  induction h with
  | unk v => exact .unk v
  | bool b => exact .bool b
  | int k n => exact .int k n
  | str s => exact .str s
  | con v h => exact .con v h
  | nils => exact .nils
  | agg cs vs hl _ ih => exact .agg cs vs hl ih
  | lnil a => exact .lnil a
  | lst es r o cap z g hcap hA' hz h1 hc _ ih =>
    refine .lst es r o cap z g hcap (fun hn => hA r (hA' hn)) hz h1 (fun i j hi hj => ?_) ih
    have hne : es ≠ [] := by intro e; subst e; simp at hi
    rw [World.cell?_of_block (hw r (hA' hne))]
    exact hc i j hi hj
  | iptr cs r o g hA' h1 hc _ ih =>
    refine .iptr cs r o g (fun hn => hA r (hA' hn)) h1 (fun j hj => ?_) ih
    have hne : cs ≠ [] := by intro e; subst e; simp at hj
    rw [World.cell?_of_block (hw r (hA' hne))]
    exact hc j hj

theorem VR.mono {φ φ' : Phi} {A A' : Nat → Prop} {w w' : World} {a : AV} {v : Value} (h : VR φ A w a v)
    (hφ : ∀ b x, φ b = some x → φ' b = some x)
    (hA : ∀ r, A r → A' r) (hw : ∀ r, A r → w'.heap[r]? = w.heap[r]?) (hs : ∀ r, rowSize w r ≤ rowSize w' r) : VR φ' A' w' a v := by
  induction h with
  | imm a v h => exact .imm a v (h.mono hA hw)
  | ptr b i j r z hb => exact .ptr b i j r z (hφ _ _ hb)
  | sl b i n r z cap hb hn hr => exact .sl b i n r z cap (hφ _ _ hb) hn (Nat.le_trans hr (hs r))
  | slnil b i a => exact .slnil b i a
  | agg cs vs hl _ ih => exact .agg cs vs hl ih
  | tup cs vs hl _ ih => exact .tup cs vs hl ih
  | fn f cs vs hl _ ih => exact .fn f cs vs hl ih

end Go.AX

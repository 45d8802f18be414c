import Derived.Test.YtliflcmdhenckaaAxRd
import Derived.Test.YtliflcmdhenckaaOffersp
/-! From the shapes of the arguments to RegisterOffers' contract. -/
open Go Go.AX Go.Proofs
namespace Go.Proofs.Ytliflcmdhenckaa

theorem registerOffers_row (avs : List AV) (h : ShVs Try.prog 3 Try.f5.params.toList avs) : CT Try.prog 5 [] avs [] (.bool true) := by
  rw [Try.params5] at h
  obtain ⟨s, _, rfl, ks, h⟩ := h.consD
  obtain ⟨x, _, rfl, kx, h⟩ := h.consD
  obtain ⟨y, _, rfl, ky, h⟩ := h.consD
  obtain rfl := h.nilD
  obtain ⟨_, hs, rfl⟩ := ks.structD Try.underlying44
  obtain ⟨_, _, rfl, g1, hs⟩ := hs.consD
  obtain ⟨_, _, rfl, g2, hs⟩ := hs.consD
  obtain ⟨_, _, rfl, g3, hs⟩ := hs.consD
  obtain ⟨_, _, rfl, g4, hs⟩ := hs.consD
  obtain rfl := hs.nilD
  obtain ⟨q, hq, rfl⟩ := g1.intD Try.underlying31
  obtain ⟨o, rfl⟩ := g2.boolD Try.underlying4
  obtain ⟨c, _, rfl⟩ := g3.intD Try.underlying3
  obtain ⟨f, _, rfl⟩ := g4.intD Try.underlying3
  obtain ⟨_, hx, rfl⟩ := kx.arrayD Try.underlying45
  obtain ⟨_, _, rfl, g1, hx⟩ := hx.consD
  obtain ⟨_, _, rfl, g2, hx⟩ := hx.consD
  obtain ⟨_, _, rfl, g3, hx⟩ := hx.consD
  obtain rfl := hx.nilD
  obtain ⟨a, _, rfl⟩ := g1.intD Try.underlying3
  obtain ⟨b, _, rfl⟩ := g2.intD Try.underlying3
  obtain ⟨d, _, rfl⟩ := g3.intD Try.underlying3
  obtain ⟨_, hy, rfl⟩ := ky.arrayD Try.underlying46
  obtain ⟨_, _, rfl, g1, hy⟩ := hy.consD
  obtain ⟨_, _, rfl, g2, hy⟩ := hy.consD
  obtain rfl := hy.nilD
  obtain ⟨p, hp, rfl⟩ := g1.intD Try.underlying31
  obtain ⟨r, _, rfl⟩ := g2.intD Try.underlying31
  exact offers_ct ⟨q, o, c, f⟩ a b d p r (wf_u64 hq) (wf_u64 hp)

end Go.Proofs.Ytliflcmdhenckaa

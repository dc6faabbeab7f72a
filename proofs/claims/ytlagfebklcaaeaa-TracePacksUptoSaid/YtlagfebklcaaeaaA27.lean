/- A value-level machine over the model, part 27: a call that leaves all that lay there as it was. -/
import Derived.Test.YtlagfebklcaaeaaA26
import Derived.Below
namespace Go.Proofs.Ytlagfebklcaaeaa
set_option linter.all false
section
variable {H : Heap} {s : St}
theorem below_step (I : Inv H s) {w : World} (h : Go.RowKit.Below s.w.heap.size s.w w) : Inv H (s.wd w) ∧ Ext H s H (s.wd w) := by
  have M : Mono s (s.wd w) := ⟨fun c o u hc _ => (cell_of_heap (h.block c (cell_lt hc))).trans hc, fun _ _ _ _ h => h, fun _ _ h => h, fun c x hc => (shape_of_heap (h.block c (shape_lt hc))).trans hc⟩
  refine ⟨⟨I.dom, fun b blk l hb hl => (I.rel b blk l hb hl).mono M fun c hc => ?_, I.inj, I.cov, fun c o hc => Nat.lt_of_lt_of_le (I.lim c o hc) h.size⟩, ?_⟩
  · obtain ⟨cs, hcs, _⟩ := (I.rel b blk l hb hl).row c hc
    exact h.block c (Array.getElem?_eq_some_iff.1 hcs).1
  · exact ⟨h.size, h.os, h.tape, h.output, fun c o hc _ => cell_of_heap (h.block c hc), fun c hc _ => h.block c hc, fun c hc => shape_of_heap (h.block c hc), fun _ _ h => h, fun _ _ h => .inl h, fun _ _ h => .inl h, fun _ _ h => .inl h⟩
theorem ac_of_below {P : Program} {f : FuncId} {xs : List D} {r : D} (hok : bodyOk P f = true)
    (h : ∀ (s : St) (vs : Array Value), Inv H s → RepL s xs vs.toList → Calls P f vs s.w fun e w => ∃ v, e = .returned v ∧ Go.RowKit.Below s.w.heap.size s.w w ∧ ∀ s1, Rep s1 r v) :
    AC P f H xs fun r' H' => r' = r ∧ H' = H := by
  refine ⟨hok, fun s vs I hvs => (h s vs I hvs).mono fun e w ⟨v, he, hb, hr⟩ => ?_⟩
  obtain ⟨k1, k2⟩ := below_step I hb
  exact ⟨v, r, H, s.wd w, he, rfl, ⟨rfl, rfl⟩, k1, k2, hr _⟩
end
end Go.Proofs.Ytlagfebklcaaeaa

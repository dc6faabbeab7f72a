/- PROVED: bakelaw3.TracePacks returns true for all traces, packed runs and numbers, and leaves its arguments as they were, where what it reads is of bulk at most 1048576. -/
import Derived.Test.YtlagfebklcaaeaaA30
import Derived.Test.YtlagfebklcaaeaaTpLaw
namespace Go.Proofs.Ytlagfebklcaaeaa
set_option linter.all false
open Go.ChangeShapes Go.WideShapes Go.ChangeAt Go.RowKit
theorem has_bus {n : Nat} {cs : List D} (h : HasT Try.prog (n + 2) 26 cs) : ∃ b, cs = busC b := by
  obtain ⟨_, _, rfl, h1, _, _, rfl, h2, _, _, rfl, h3, rfl⟩ := h.struct Try.underlying26
  obtain ⟨a, rfl, _⟩ := h1.int Try.underlying3
  obtain ⟨b, rfl, _⟩ := h2.int Try.underlying3
  obtain ⟨c, rfl, _⟩ := h3.int Try.underlying3
  exact ⟨⟨a, b, c⟩, rfl⟩
theorem has_run {n : Nat} {cs : List D} (h : HasT Try.prog (n + 3) 28 cs) : ∃ r : Bus × Int, cs = runZ r := by
  obtain ⟨_, _, rfl, h1, _, _, rfl, h2, rfl⟩ := h.struct Try.underlying28
  obtain ⟨b, rfl⟩ := has_bus h1
  obtain ⟨c, rfl, _⟩ := h2.int Try.underlying3
  exact ⟨(b, c), rfl⟩
theorem cells26 : Try.prog.cellsOf 26 = 3 := by kernel_rfl
theorem cells28 : Try.prog.cellsOf 28 = 4 := by kernel_rfl
theorem has_buses {n : Nat} {x : D} (h : HasA Try.prog (n + 3) 22 x) : ∃ l : List Bus, x = .sl 3 false (l.map busC) := by
  obtain ⟨es, e, _, he⟩ := (h.cell (by kernel_rfl)).slice Try.underlying22
  obtain ⟨l, rfl⟩ := all_map (fun c hc => has_bus hc) he
  rw [cells26] at e
  exact ⟨l, (List.cons.inj e).1⟩
theorem has_runs {n : Nat} {x : D} (h : HasA Try.prog (n + 4) 23 x) : ∃ l : List (Bus × Int), x = .sl 4 false (l.map runZ) := by
  obtain ⟨es, e, _, he⟩ := (h.cell (by kernel_rfl)).slice Try.underlying23
  obtain ⟨l, rfl⟩ := all_map (fun c hc => has_run hc) he
  rw [cells28] at e
  exact ⟨l, (List.cons.inj e).1⟩
theorem has_int {n : Nat} {x : D} (h : HasA Try.prog (n + 1) 3 x) : ∃ k, x = I k := by
  obtain ⟨k, e, _⟩ := (h.cell (by kernel_rfl)).int Try.underlying3
  exact ⟨k, (List.cons.inj e).1⟩
theorem packs_law : ∀ xs, HasAs Try.prog 4 Try.f3.params.toList xs → bulkL xs ≤ 1048576 → Fn Try.prog 3 xs (.bool true) := by
  intro xs h hb
  rw [Try.params3] at h
  obtain ⟨x0, _, rfl, h0, h⟩ := HasAs.cons h
  obtain ⟨x1, _, rfl, h1, h⟩ := HasAs.cons h
  obtain ⟨x2, _, rfl, h2, h⟩ := HasAs.cons h
  obtain ⟨x3, _, rfl, h3, h⟩ := HasAs.cons h
  obtain ⟨x4, _, rfl, h4, h⟩ := HasAs.cons h
  obtain ⟨x5, _, rfl, h5, h⟩ := HasAs.cons h
  obtain rfl := HasAs.nil h
  obtain ⟨l, rfl⟩ := has_buses h0
  obtain ⟨r, rfl⟩ := has_runs h1
  obtain ⟨a, rfl⟩ := has_int h2
  obtain ⟨b, rfl⟩ := has_int h3
  obtain ⟨c, rfl⟩ := has_int h4
  obtain ⟨d, rfl⟩ := has_int h5
  have hl := bulk_map (f := busC) 3 (fun b => Nat.le_refl _) l
  have hr := bulk_map (f := runZ) 3 (fun r => by simp [runZ, bulkL, bulkD]) r
  simp only [bulkL, bulkD] at hb
  exact law3 l r false false a b c d (by omega) (by omega)
theorem packs_own : ownKnob Try.prog.godebug = none := by kernel_rfl
set_option maxRecDepth 100000 in
theorem packs_lifted (os : Os) (started : os.Started) (H : Type) (enc : TypeId × Value → H) (F : Stop.Interp) :
    ReturnsInHanded {} Try.checked os 3 .any ((Rows.OpenSpec.upto Rows.tracePacksSpec).pre6 enc Try.prog Try.f3 Rows.tracePacksUptoRow.domain false) (((Rows.OpenSpec.upto Rows.tracePacksSpec).at F).post enc Try.prog Try.f3 false true false false) := by
  refine returnsInHanded_of_cond (C := Try.checked) (s := Rows.OpenSpec.upto Rows.tracePacksSpec) (k := Rows.uptoSmall) rfl packs_own started (by kernel_rfl) Try.func3
    (OpenSpec.witness (enc := enc) (C := Try.checked) (s := Rows.OpenSpec.upto Rows.tracePacksSpec) (k := Rows.uptoSmall) rfl false ⟨#[], #[.slice none 0 0, .slice none 0 0, .int .i64 0, .int .i64 0, .int .i64 0, .int .i64 0], []⟩ 8 (by kernel_rfl) (by kernel_rfl) (by kernel_rfl)
      (x := ([.nil, .nil, .lit (.int .i64 0), .lit (.int .i64 0), .lit (.int .i64 0), .lit (.int .i64 0)], [], [])) (by kernel_rfl) rfl (by kernel_rfl)) ?_
  intro W base args ds gs before hval hW _ hk _
  exact law_post (n := 4) (N := 1048576) (s := Rows.tracePacksSpec) (by kernel_rfl) rfl Try.underlying4 (by kernel_rfl) (by kernel_rfl) rfl
    (fun ds h => by match ds, h with | [_, _, _, _, _, _], _ => rfl) packs_law hW hval (of_decide_eq_true hk)
theorem packs_over : Rows.tracePacksUptoRow.holds Try.pinned (Rows.OpenSpec.upto Rows.tracePacksSpec) :=
  OpenClaim.holds_of_cond 3 Try.f3 rfl rfl rfl rfl rfl rfl rfl ⟨rfl, rfl, rfl, rfl, rfl⟩ rfl rfl rfl rfl rfl (by kernel_rfl) Try.func3 (by kernel_rfl)
    (of_decide_eq_true (by kernel_rfl)) (by unfold Func.isWrapper; first | (rw [if_pos (by decide +kernel)]; kernel_rfl) | (rw [if_neg (by decide +kernel)]; exact ⟨rfl, rfl⟩))
    (fun os started H enc _ F => packs_lifted os started H enc F)
theorem tracePacks_holds : Rows.TracePacksUptoSaid := packs_over
end Go.Proofs.Ytlagfebklcaaeaa

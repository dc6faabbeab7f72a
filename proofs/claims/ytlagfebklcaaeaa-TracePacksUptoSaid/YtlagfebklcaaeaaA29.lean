/- A value-level machine over the model, part 29: arguments as they are read, and data; a function of data answers a row. -/
import Derived.Test.YtlagfebklcaaeaaA28
import Derived.Test.YtlagfebklcaaeaaRows
import Derived.WalkKit
import Derived.ProofKit
import Derived.OpenShut
import Derived.JoinedCond
import Derived.Carry
import Derived.WideKeyArgs
namespace Go.Proofs.Ytlagfebklcaaeaa
set_option linter.all false
open Go.ChangeShapes Go.WideShapes Go.ChangeAt Go.RowKit
mutual
/-- How much a datum holds. -/
def bulkD : D → Nat
  | .str s => s.size + 1
  | .sl _ _ es => bulkR es + 1
  | .agg cs => bulkL cs
  | _ => 1
def bulkL : List D → Nat
  | [] => 0
  | d :: ds => bulkD d + bulkL ds
def bulkR : List (List D) → Nat
  | [] => 0
  | e :: es => bulkL e + bulkR es
end
theorem bulkL_append (a b : List D) : bulkL (a ++ b) = bulkL a + bulkL b := by
  induction a with
  | nil => simp [bulkL]
  | cons x l ih => simp only [List.cons_append, bulkL, ih]; omega
def fieldsT (P : Program) (go : TypeId → Bool) : List Field → Nat → Option Nat
  | [], o => some o
  | f :: fs, o => if f.offset = o ∧ go f.type = true then fieldsT P go fs (o + P.cellsOf f.type) else none
/-- Types without pointers, maps, functions, floats. -/
def plainT (P : Program) : Nat → TypeId → Bool
  | 0, _ => false
  | n + 1, t => match P.underlying t with
    | some .bool => true
    | some .string => true
    | some (.int _) => true
    | some (.slice e) => plainT P n e && decide (0 < P.cellsOf e)
    | some (.struct fs) => decide (fieldsT P (plainT P n) fs.toList 0 = some (P.cellsOf t))
    | some (.array m e) => plainT P n e && decide (P.cellsOf t = m * P.cellsOf e)
    | _ => false
def HasFs (go : TypeId → List D → Prop) : List Field → List D → Prop
  | [], cs => cs = []
  | f :: fs, cs => ∃ p q, cs = p ++ q ∧ go f.type p ∧ HasFs go fs q
/-- These cells are of this type. -/
def HasT (P : Program) : Nat → TypeId → List D → Prop
  | 0, _, _ => False
  | n + 1, t, cs => match P.underlying t with
    | some .bool => ∃ x, cs = [.bool x]
    | some .string => ∃ x : ByteArray, cs = [.str x] ∧ x.size ≤ maxLen
    | some (.int k) => ∃ x, cs = [.int k x] ∧ (Lit.int k x).wf = true
    | some (.slice e) => ∃ es, cs = [.sl (P.cellsOf e) false es] ∧ es.length ≤ maxLen ∧ ∀ e' ∈ es, HasT P n e e'
    | some (.struct fs) => HasFs (HasT P n) fs.toList cs
    | some (.array m e) => ∃ parts : List (List D), cs = parts.flatten ∧ parts.length = m ∧ ∀ p ∈ parts, HasT P n e p
    | _ => False
section
variable {H : Type} {enc : TypeId × Value → H} {P : Program} {w : World}
theorem mapM_get {α β : Type} {f : α → Option β} : ∀ {l : List α} {xs : List β}, l.mapM f = some xs → xs.length = l.length ∧ ∀ (i : Nat) (a : α), l[i]? = some a → ∃ b, xs[i]? = some b ∧ f a = some b
  | [], xs, h => by simp at h; subst h; simp
  | a :: l, xs, h => by
    simp only [List.mapM_cons, Option.pure_def, Option.bind_eq_bind, Option.bind_eq_some_iff, Option.some.injEq] at h
    obtain ⟨b, hb, bs, hbs, rfl⟩ := h
    obtain ⟨h1, h2⟩ := mapM_get hbs
    refine ⟨by simp [h1], fun i x hx => ?_⟩
    cases i with
    | zero => simp at hx; subst hx; exact ⟨b, rfl, hb⟩
    | succ i => simpa using h2 i x (by simpa using hx)
/-- What is known of cells and their data. -/
def Good (w : World) (ds : List D) (cs : List Value) : Prop := ds.length = cs.length ∧ (∀ u ∈ cs, u.oneCell' = true) ∧ ∀ s : St, s.w = w → (∀ c o, ¬ s.NI c o) → RepL s ds cs
theorem Good.append {a b : List D} {u v : List Value} (h : Good w a u) (k : Good w b v) : Good w (a ++ b) (u ++ v) :=
  ⟨by simp [h.1, k.1], fun x hx => (List.mem_append.1 hx).elim (h.2.1 x) (k.2.1 x), fun s hs hn => RepL_append (h.2.2 s hs hn) (k.2.2 s hs hn)⟩
theorem Good.one {d : D} {v : Value} (ho : v.oneCell' = true) (h : ∀ s : St, s.w = w → (∀ c o, ¬ s.NI c o) → Rep s d v) : Good w [d] [v] :=
  ⟨rfl, fun u hu => by simp at hu; subst hu; exact ho, fun s hs hn => by simp only [RepL]; exact ⟨v, [], rfl, h s hs hn, rfl⟩⟩
theorem Good.flatten {sz : Nat} : ∀ {parts : List (List D)} {cs : List Value}, cs.length = parts.length * sz → (∀ (i : Nat) (p : List D), parts[i]? = some p → Good w p ((cs.drop (i * sz)).take sz)) → Good w parts.flatten cs
  | [], cs, hl, _ => by
    have : cs = [] := List.eq_nil_of_length_eq_zero (by simpa using hl)
    subst this
    exact ⟨rfl, by simp, fun s _ _ => by simp [RepL]⟩
  | p :: parts, cs, hl, h => by
    have h0 := h 0 p rfl
    simp only [Nat.zero_mul, List.drop_zero] at h0
    have h1 : Good w parts.flatten (cs.drop sz) := Good.flatten (sz := sz) (by simp only [List.length_drop, List.length_cons, Nat.add_mul] at hl ⊢; omega) fun i q hq => by
      have := h (i + 1) q (by simpa using hq)
      rw [Nat.add_mul, Nat.one_mul] at this
      rw [List.drop_drop, Nat.add_comm sz]
      exact this
    have := h0.append h1
    rwa [List.take_append_drop] at this
theorem build {α : Type} {Q : Nat → α → Prop} : ∀ (n : Nat), (∀ i, i < n → ∃ a, Q i a) → ∃ l : List α, l.length = n ∧ ∀ (i : Nat) (a : α), l[i]? = some a → Q i a
  | 0, _ => ⟨[], rfl, by simp⟩
  | n + 1, h => by
    obtain ⟨l, hl, hq⟩ := build n fun i hi => h i (by omega)
    obtain ⟨a, ha⟩ := h n (by omega)
    refine ⟨l ++ [a], by simp [hl], fun i x hx => ?_⟩
    by_cases hi : i < l.length
    · rw [List.getElem?_append_left hi] at hx; exact hq i x hx
    · have : i < (l ++ [a]).length := (List.getElem?_eq_some_iff.1 hx).1
      have e : i = l.length := by simp at this; omega
      subst e
      simp at hx; subst hx; rw [hl]; exact ha
theorem bulk_all {es : List (List D)} {xs : List (DataW H)} (hl : es.length = xs.length) (h : ∀ (i : Nat) (e : List D) (x : DataW H), es[i]? = some e → xs[i]? = some x → bulkL e ≤ Rows.uptoBulk x) : bulkR es ≤ Rows.uptoBulkAll xs := by
  induction es generalizing xs with
  | nil => simp [bulkR]
  | cons e es ih =>
    cases xs with
    | nil => simp at hl
    | cons x xs =>
      have h0 := h 0 e x rfl rfl
      have h1 := ih (xs := xs) (by simpa using hl) fun i a b ha hb => h (i + 1) a b (by simpa using ha) (by simpa using hb)
      simp only [bulkR, Rows.uptoBulkAll]
      omega
theorem bulkR_flatten (es : List (List D)) : bulkL es.flatten = bulkR es := by
  induction es with
  | nil => rfl
  | cons e es ih => rw [List.flatten_cons, bulkL_append, ih]; rfl
theorem cells_some {a : Addr} {n : Nat} {cs : List Value} (h : w.cells? 0 a n = some cs) : cs.length = n ∧ ∀ j, j < n → ∃ u, cs[j]? = some u ∧ w.cell? (a.add j) = some u := by
  unfold World.cells? at h
  rw [if_pos (Nat.zero_le _)] at h
  obtain ⟨h1, h2⟩ := mapM_get h
  refine ⟨by simpa using h1, fun j hj => ?_⟩
  obtain ⟨u, hu, hc⟩ := h2 j j (by rw [List.getElem?_range hj])
  exact ⟨u, hu, hc⟩
theorem cell_spot {a : Addr} {u : Value} (h : w.cell? a = some u) : a.spot = none := by
  unfold World.cell? at h
  split at h
  · split at h
    · cases h
    · rename_i hs; simpa using hs
  · cases h
theorem HasFs_good {go : TypeId → List D → Prop} {gb : TypeId → Bool} {m : Nat} {cs : List Value} : ∀ (fs : List Field) (xs : List (DataW H × List MemPlace)) (o : Nat), fieldsT P gb fs o = some cs.length → xs.length = fs.length →
    (∀ (i : Nat) (f : Field), fs[i]? = some f → DataW.trod enc P w 0 (fun _ => true) true m f.type ((cs.drop f.offset).take (P.cellsOf f.type)) = xs[i]?) →
    (∀ t cs x, DataW.trod enc P w 0 (fun _ => true) true m t cs = some x → gb t = true → ∃ ds, go t ds ∧ Good w ds cs ∧ bulkL ds ≤ Rows.uptoBulk x.1) →
    ∃ ds, HasFs go fs ds ∧ Good w ds (cs.drop o) ∧ bulkL ds ≤ Rows.uptoBulkAll (xs.map (·.1))
  | [], xs, o, h, hl, _, _ => by
    simp only [fieldsT, Option.some.injEq] at h
    subst h
    exact ⟨[], rfl, by rw [List.drop_length]; exact ⟨rfl, by simp, fun s _ _ => by simp [RepL]⟩, by simp [bulkL]⟩
  | f :: fs, [], o, h, hl, _, _ => by simp at hl
  | f :: fs, x :: xs, o, h, hl, hx, ih => by
    simp only [fieldsT] at h
    split at h
    · rename_i hc
      have h0 := hx 0 f rfl
      rw [hc.1] at h0
      obtain ⟨p, p1, p2, p3⟩ := ih _ _ _ h0 hc.2
      obtain ⟨q, q1, q2, q3⟩ := HasFs_good fs xs _ h (by simpa using hl) (fun i g hg => by simpa using hx (i + 1) g (by simpa using hg)) ih
      refine ⟨p ++ q, ⟨p, q, rfl, p1, q1⟩, ?_, ?_⟩
      · have := p2.append q2
        rw [← List.drop_drop, List.take_append_drop] at this
        exact this
      · rw [bulkL_append]
        simp only [List.map_cons, Rows.uptoBulkAll]
        omega
    · cases h
theorem trod_has : ∀ (fuel : Nat) (t : TypeId) (cs : List Value) (x : DataW H × List MemPlace) (n : Nat), DataW.trod enc P w 0 (fun _ => true) true fuel t cs = some x → plainT P n t = true →
    ∃ ds, HasT P n t ds ∧ Good w ds cs ∧ bulkL ds ≤ Rows.uptoBulk x.1
  | 0, t, cs, x, n, h, _ => by simp [DataW.trod] at h
  | fuel + 1, t, cs, x, 0, h, hp => by simp [plainT] at hp
  | fuel + 1, t, cs, x, n + 1, h, hp => by
    simp only [plainT] at hp
    simp only [HasT]
    split at hp
    · rename_i hu
      obtain ⟨b, rfl, rfl⟩ := DataW.trod_bool hu h
      try simp only [hu]
      exact ⟨[.bool b], ⟨b, rfl⟩, .one rfl fun s _ _ => by simp only [Rep], by simp [bulkL, bulkD, Rows.uptoBulk]⟩
    · rename_i hu
      obtain ⟨b, rfl, rfl, hb⟩ := DataW.trod_string hu h
      try simp only [hu]
      exact ⟨[.str b], ⟨b, rfl, hb⟩, .one rfl fun s _ _ => by simp only [Rep], by simp only [bulkL, bulkD, Rows.uptoBulk]; rw [show b.data.toList.length = b.size from rfl]; omega⟩
    · rename_i k hu
      obtain ⟨b, rfl, rfl, hb⟩ := DataW.trod_int hu h
      try simp only [hu]
      exact ⟨[.int k b], ⟨b, rfl, hb⟩, .one rfl fun s _ _ => by simp only [Rep], by simp [bulkL, bulkD, Rows.uptoBulk]⟩
    · rename_i e hu
      simp only [Bool.and_eq_true, decide_eq_true_eq] at hp
      obtain ⟨hp, hsz⟩ := hp

      try simp only [hu]
      rcases DataW.trod_slice hu h with ⟨rfl, rfl⟩ | ⟨a, len, cap, elems, rest, m, hm, rfl, rfl, _, hlc, hcm, hlen, hel, _, _⟩
      · exact ⟨[.sl (P.cellsOf e) false []], ⟨[], rfl, by simp, by simp⟩, .one rfl fun s _ _ => by simp only [Rep]; exact ⟨none, 0, rfl, Nat.le_refl _, (fun h => by cases h), .inl trivial⟩, by simp [bulkL, bulkD, bulkR, Rows.uptoBulk]⟩
      · cases hm
        obtain ⟨es, hes, hq⟩ := build (Q := fun i (ds : List D) => ∃ cs, w.cells? 0 (a.add (i * P.cellsOf e)) (P.cellsOf e) = some cs ∧ HasT P n e ds ∧ Good w ds cs ∧ ∃ x, elems[i]? = some x ∧ bulkL ds ≤ Rows.uptoBulk x.1) len (fun i hi => by
          have h1 := hel i hi
          obtain ⟨x, hx⟩ : ∃ x, elems[i]? = some x := ⟨_, List.getElem?_eq_getElem (by omega)⟩
          rw [hx, Option.bind_eq_some_iff] at h1
          obtain ⟨cs, hc, ht⟩ := h1
          obtain ⟨ds, d1, d2, d3⟩ := trod_has fuel e cs x n ht hp
          exact ⟨ds, cs, hc, d1, d2, x, hx, d3⟩)
        refine ⟨[.sl (P.cellsOf e) false es], ⟨es, rfl, by omega, fun d hd => ?_⟩, .one rfl fun s hs hn => ?_, ?_⟩
        · obtain ⟨i, hi, rfl⟩ := List.mem_iff_getElem.1 hd
          obtain ⟨_, _, h2, _⟩ := hq i es[i] (List.getElem?_eq_getElem hi)
          exact h2
        · simp only [Rep]
          refine ⟨some a, cap, by rw [hes], by omega, (fun h => by cases h), ?_⟩
          by_cases h0 : len = 0
          · exact .inl (List.eq_nil_of_length_eq_zero (by omega))
          · right
            have hsp : a.spot = none := by
              obtain ⟨cs, hc, _⟩ := hq 0 es[0] (List.getElem?_eq_getElem (by omega))
              obtain ⟨u, _, hu⟩ := (cells_some hc).2 0 hsz
              have := cell_spot hu
              simpa [Addr.add] using this
            obtain ⟨g, o, sp⟩ := a
            simp only at hsp
            subst hsp
            refine ⟨g, o, rfl, RepR_of fun i d hd => ?_⟩
            obtain ⟨cs, hc, _, hg, _⟩ := hq i d hd
            obtain ⟨c1, c2⟩ := cells_some hc
            refine ⟨hg.1.trans c1, RepC_of fun j y hj => ?_⟩
            have hjl : j < cs.length := by have := (List.getElem?_eq_some_iff.1 hj).1; rw [hg.1] at this; exact this
            obtain ⟨u, hu, hcell⟩ := c2 j (by omega)
            obtain ⟨v, hv, hr⟩ := RepL_at (hg.2.2 s hs hn) hj
            rw [hu] at hv
            cases hv
            rw [add_none, add_none] at hcell
            exact ⟨u, by rw [hs]; exact hcell, hn _ _, hg.2.1 u (List.mem_of_getElem? hu), hr⟩
        · simp only [bulkL, bulkD, Rows.uptoBulk]
          have : bulkR es ≤ Rows.uptoBulkAll (elems.map (·.1)) := bulk_all (by simp; omega) fun i d y hd hy => by
            obtain ⟨_, _, _, _, x, hx, hb⟩ := hq i d hd
            rw [List.getElem?_map, hx] at hy
            cases hy
            exact hb
          omega
    · rename_i fs hu
      simp only [decide_eq_true_eq] at hp
      try simp only [hu]
      obtain ⟨xs, m, hm, rfl, hl, hxl, hf⟩ := DataW.trod_struct hu h
      cases hm
      rw [← hl] at hp
      obtain ⟨ds, d1, d2, d3⟩ := HasFs_good (go := HasT P n) fs.toList xs 0 hp (by simpa using hxl) (fun i f hif => hf i f (by simpa using hif)) fun t cs x ht hb => trod_has fuel t cs x n ht hb
      exact ⟨ds, d1, by simpa using d2, by simp only [Rows.uptoBulk]; omega⟩
    · rename_i m e hu
      simp only [Bool.and_eq_true, decide_eq_true_eq] at hp
      try simp only [hu]
      obtain ⟨xs, k, hk, rfl, hl, hxl, hf⟩ := DataW.trod_array hu h
      cases hk
      obtain ⟨es, hes, hq⟩ := build (Q := fun i (ds : List D) => HasT P n e ds ∧ Good w ds ((cs.drop (i * P.cellsOf e)).take (P.cellsOf e)) ∧ ∃ x, xs[i]? = some x ∧ bulkL ds ≤ Rows.uptoBulk x.1) m (fun i hi => by
        have h1 := hf i hi
        obtain ⟨x, hx⟩ : ∃ x, xs[i]? = some x := ⟨_, List.getElem?_eq_getElem (by omega)⟩
        rw [hx] at h1
        obtain ⟨ds, d1, d2, d3⟩ := trod_has fuel e _ x n h1 hp.1
        exact ⟨ds, d1, d2, x, hx, d3⟩)
      refine ⟨es.flatten, ⟨es, rfl, hes, fun d hd => ?_⟩, Good.flatten (sz := P.cellsOf e) (by rw [hl, hp.2, hes]) fun i p hi => (hq i p hi).2.1, ?_⟩
      · obtain ⟨i, hi, rfl⟩ := List.mem_iff_getElem.1 hd
        exact (hq i es[i] (List.getElem?_eq_getElem hi)).1
      · rw [bulkR_flatten]
        simp only [Rows.uptoBulk]
        have : bulkR es ≤ Rows.uptoBulkAll (xs.map (·.1)) := bulk_all (by simp; omega) fun i d y hd hy => by
          obtain ⟨_, _, x, hx, hb⟩ := hq i d hd
          rw [List.getElem?_map, hx] at hy
          cases hy
          exact hb
        omega
    · cases hp
end
attribute [irreducible] HasT
end Go.Proofs.Ytlagfebklcaaeaa

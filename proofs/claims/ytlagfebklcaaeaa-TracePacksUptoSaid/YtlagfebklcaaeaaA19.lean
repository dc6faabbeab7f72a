/- A value-level machine over the model, part 19: regions that draw their order. -/
import Derived.Test.YtlagfebklcaaeaaA18
namespace Go.Proofs.Ytlagfebklcaaeaa
set_option linter.all false

/-- What one operation has done, in the text's order. -/
structure TE where
  dst : Option Nat
  looks : List Nat
  d : D
  ws : List (Nat × Option Blk)
  rd : List Nat
  nw : Option Nat
def TE.ids (t : TE) : List Nat := t.ws.map (·.1)
def upW (H : Heap) (ws : List (Nat × Option Blk)) : Heap := ws.foldl (fun H p => H.set p.1 p.2) H
def notIn (o : Option Nat) (l : List Nat) : Bool := match o with
  | some i => !l.contains i
  | none => true
theorem notIn_spec {o : Option Nat} {l : List Nat} (h : notIn o l = true) {i : Nat} (hi : o = some i) : i ∉ l := by
  subst hi
  simpa [notIn] using h
/-- May two operations change places? -/
def TE.apart (a b : TE) : Bool :=
  notIn a.dst b.looks && notIn a.dst b.dst.toList && notIn b.dst a.looks && a.ids.all (fun i => !b.rd.contains i && !b.ids.contains i) && b.ids.all (fun i => !a.rd.contains i)
def pairsOk (bs : List (List Nat)) (l : List TE) : Bool :=
  (List.range l.length).all fun j => (List.range j).all fun i => (bs.getD j []).contains i || (match l[i]?, l[j]? with
    | some a, some b => a.apart b
    | _, _ => false)

section
variable {T : Tm} {H : Heap}
theorem upW_length (ws : List (Nat × Option Blk)) (H : Heap) : (upW H ws).length = H.length := by
  unfold upW
  induction ws generalizing H with
  | nil => rfl
  | cons p ws ih => rw [List.foldl_cons, ih]; simp
theorem upW_out {ws : List (Nat × Option Blk)} {b : Nat} : ∀ {H : Heap}, b ∉ ws.map (·.1) → (upW H ws)[b]? = H[b]? := by
  unfold upW
  induction ws with
  | nil => intro H _; rfl
  | cons p ws ih =>
    intro H h
    simp only [List.map_cons, List.mem_cons, not_or] at h
    rw [List.foldl_cons, ih h.2, List.getElem?_set_ne (fun e => h.1 e.symm)]
theorem upW_in {ws : List (Nat × Option Blk)} {b : Nat} : ∀ {H H' : Heap}, H.length = H'.length → b ∈ ws.map (·.1) → (upW H ws)[b]? = (upW H' ws)[b]? := by
  unfold upW
  induction ws with
  | nil => intro H H' _ h; simp at h
  | cons p ws ih =>
    intro H H' hl h
    simp only [List.map_cons, List.mem_cons] at h
    rw [List.foldl_cons, List.foldl_cons]
    by_cases hin : b ∈ ws.map (·.1)
    · exact ih (by simpa using hl) hin
    · have hb : b = p.1 := h.resolve_right hin
      have e1 := upW_out (H := H.set p.1 p.2) hin
      have e2 := upW_out (H := H'.set p.1 p.2) hin
      unfold upW at e1 e2
      rw [e1, e2, hb, List.getElem?_set, List.getElem?_set, hl]
      simp

/-! ### Folds over the operations that have been done -/
def fT (S : Nat → Bool) : List TE → Nat → Tm → Tm
  | [], _, T => T
  | t :: l, k, T => fT S l (k + 1) (if S k then put T t.dst t.d else T)
def fH (S : Nat → Bool) : List TE → Nat → Heap → Heap
  | [], _, H => H
  | t :: l, k, H => fH S l (k + 1) (if S k then upW H t.ws else H)
theorem put_ne {T : Tm} {dst : Option Nat} {d : D} {i : Nat} (h : dst ≠ some i) : put T dst d i = T i := by
  cases dst with
  | none => rfl
  | some j => simp only [put]; rw [if_neg (fun e => h (by rw [e]))]
theorem put_eq {T : Tm} {d : D} {i : Nat} : put T (some i) d i = d := by simp [put]
theorem fT_congr {S S' : Nat → Bool} {i : Nat} : ∀ {l : List TE} {k : Nat} {T T' : Tm}, T i = T' i → (∀ j t, l[j]? = some t → t.dst = some i → S (k + j) = S' (k + j)) → fT S l k T i = fT S' l k T' i
  | [], _, _, _, h, _ => h
  | t :: l, k, T, T', h, hs => by
    simp only [fT]
    refine fT_congr ?_ fun j t' hj hd => by have := hs (j + 1) t' (by simpa using hj) hd; rwa [show k + 1 + j = k + (j + 1) from by omega]
    by_cases e : t.dst = some i
    · have h0 := hs 0 t rfl e
      rw [Nat.add_zero] at h0
      rw [h0]
      split
      · rw [e, put_eq, put_eq]
      · exact h
    · split <;> split <;> (first | (rw [put_ne e, put_ne e]; exact h) | (rw [put_ne e]; exact h) | exact h)
theorem fH_length {S : Nat → Bool} : ∀ {l : List TE} {k : Nat} {H : Heap}, (fH S l k H).length = H.length
  | [], _, _ => rfl
  | t :: l, k, H => by
    simp only [fH]
    rw [fH_length]
    split
    · exact upW_length _ _
    · rfl
theorem fH_congr {S S' : Nat → Bool} {b : Nat} : ∀ {l : List TE} {k : Nat} {H H' : Heap}, H.length = H'.length → H[b]? = H'[b]? → (∀ j t, l[j]? = some t → b ∈ t.ids → S (k + j) = S' (k + j)) → (fH S l k H)[b]? = (fH S' l k H')[b]?
  | [], _, _, _, _, h, _ => h
  | t :: l, k, H, H', hl, h, hs => by
    simp only [fH]
    refine fH_congr ?_ ?_ fun j t' hj hd => by have := hs (j + 1) t' (by simpa using hj) hd; rwa [show k + 1 + j = k + (j + 1) from by omega]
    · split <;> split <;> simp [upW_length, hl]
    · by_cases e : b ∈ t.ids
      · have h0 := hs 0 t rfl e
        rw [Nat.add_zero] at h0
        rw [h0]
        split
        · exact upW_in hl e
        · exact h
      · split <;> split <;> (first | (rw [upW_out e, upW_out e]; exact h) | (rw [upW_out e]; exact h) | exact h)
/-- The state before operation i of the text. -/
def low (i : Nat) : Nat → Bool := fun j => decide (j < i)
/-- What is done with operation i on top. -/
def plus (S : Nat → Bool) (i : Nat) : Nat → Bool := fun j => S j || decide (j = i)
theorem fT_plus {S : Nat → Bool} {x : Nat} : ∀ {l : List TE} {k i : Nat} {t : TE} {T : Tm}, l[i]? = some t → (∀ j t', i < j → l[j]? = some t' → t'.dst = t.dst → t.dst ≠ none → S (k + j) = false) →
    fT (plus S (k + i)) l k T x = put (fT S l k T) t.dst t.d x
  | [], _, _, _, _, h, _ => by simp at h
  | t0 :: l, k, 0, t, T, h, hl => by
    simp at h
    subst h
    have hp : plus S (k + 0) k = true := by simp [plus]
    simp only [fT, hp, if_true]
    by_cases e : t0.dst = some x
    · rw [e, put_eq]
      have gen : ∀ (l : List TE) (k' : Nat) (T' : Tm), T' x = t0.d → (∀ j t', l[j]? = some t' → t'.dst = some x → plus S (k + 0) (k' + j) = false) → fT (plus S (k + 0)) l k' T' x = t0.d := by
        intro l
        induction l with
        | nil => intro k' T' h _; exact h
        | cons t1 l ih =>
          intro k' T' h hn
          simp only [fT]
          refine ih _ _ ?_ fun j t' hj hd => by have := hn (j + 1) t' (by simpa using hj) hd; rwa [show k' + 1 + j = k' + (j + 1) from by omega]
          by_cases e1 : t1.dst = some x
          · have h1 := hn 0 t1 rfl e1
            have hf : ¬ plus S (k + 0) k' = true := fun hh => by
              have h2 : plus S (k + 0) k' = false := h1
              rw [hh] at h2; cases h2
            rw [if_neg hf]; exact h
          · split
            · rw [put_ne e1]; exact h
            · exact h
      refine gen l (k + 1) _ (by rw [put_eq]) fun j t' hj hd => ?_
      have := hl (j + 1) t' (by omega) (by simpa using hj) (by rw [hd, e]) (by rw [e]; simp)
      rw [show k + 1 + j = k + (j + 1) from by omega]
      simp [plus, this]
    · rw [put_ne e]
      refine fT_congr ?_ fun j t' hj hd => ?_
      · rw [put_ne e]
        split
        · rw [put_ne e]
        · rfl
      · simp only [plus]
        have : decide (k + 1 + j = k + 0) = false := decide_eq_false (by omega)
        rw [this, Bool.or_false]
  | t0 :: l, k, i + 1, t, T, h, hl => by
    simp only [fT]
    have h0 : plus S (k + (i + 1)) k = S k := by simp [plus]
    rw [h0, show k + (i + 1) = k + 1 + i from by omega]
    exact fT_plus (by simpa using h) fun j t' hj hjl hd hn => by
      have := hl (j + 1) t' (by omega) (by simpa using hjl) hd hn
      rwa [show k + 1 + j = k + (j + 1) from by omega]
theorem fH_plus {S : Nat → Bool} {b : Nat} : ∀ {l : List TE} {k i : Nat} {t : TE} {H : Heap}, l[i]? = some t → (∀ j t', i < j → l[j]? = some t' → b ∈ t'.ids → b ∈ t.ids → S (k + j) = false) →
    (fH (plus S (k + i)) l k H)[b]? = (upW (fH S l k H) t.ws)[b]?
  | [], _, _, _, _, h, _ => by simp at h
  | t0 :: l, k, 0, t, H, h, hl => by
    simp at h
    subst h
    have hp : plus S (k + 0) k = true := by simp [plus]
    simp only [fH, hp, if_true]
    by_cases e : b ∈ t0.ids
    · have gen : ∀ (l : List TE) (k' : Nat) (H' : Heap), (∀ j t', l[j]? = some t' → b ∈ t'.ids → plus S (k + 0) (k' + j) = false) → (fH (plus S (k + 0)) l k' H')[b]? = H'[b]? := by
        intro l
        induction l with
        | nil => intro k' H' _; rfl
        | cons t1 l ih =>
          intro k' H' hn
          simp only [fH]
          rw [ih _ _ fun j t' hj hd => by have := hn (j + 1) t' (by simpa using hj) hd; rwa [show k' + 1 + j = k' + (j + 1) from by omega]]
          by_cases e1 : b ∈ t1.ids
          · have h1 := hn 0 t1 rfl e1
            have hf : ¬ plus S (k + 0) k' = true := fun hh => by
              have h2 : plus S (k + 0) k' = false := h1
              rw [hh] at h2; cases h2
            rw [if_neg hf]
          · split
            · exact upW_out e1
            · rfl
      rw [gen l (k + 1) _ fun j t' hj hd => ?_]
      · refine upW_in ?_ e
        rw [fH_length]
        split
        · rw [upW_length]
        · rfl
      · have := hl (j + 1) t' (by omega) (by simpa using hj) hd e
        rw [show k + 1 + j = k + (j + 1) from by omega]
        simp [plus, this]
    · rw [upW_out e]
      refine fH_congr ?_ ?_ fun j t' hj hd => ?_
      · split <;> simp [upW_length]
      · rw [upW_out e]
        split
        · rw [upW_out e]
        · rfl
      · simp only [plus]
        have : decide (k + 1 + j = k + 0) = false := decide_eq_false (by omega)
        rw [this, Bool.or_false]
  | t0 :: l, k, i + 1, t, H, h, hl => by
    simp only [fH]
    have h0 : plus S (k + (i + 1)) k = S k := by simp [plus]
    rw [h0, show k + (i + 1) = k + 1 + i from by omega]
    exact fH_plus (by simpa using h) fun j t' hj hjl hd hn => by
      have := hl (j + 1) t' (by omega) (by simpa using hjl) hd hn
      rwa [show k + 1 + j = k + (j + 1) from by omega]
end
end Go.Proofs.Ytlagfebklcaaeaa

/- Plain laws of lists behind TracePacks: runs laid out again, neighbours that differ, sorted lists without repeats. -/
import Derived.Test.YtlagfebklcaaeaaTpLst
namespace Go.Proofs.Ytlagfebklcaaeaa
set_option linter.all false
/-! ### Packed traces -/
def unp (out : List (Bus × Nat)) : List Bus := out.flatMap fun r => List.replicate r.2 r.1
theorem unp_snoc (o : List (Bus × Nat)) (r : Bus × Nat) : unp (o ++ [r]) = unp o ++ List.replicate r.2 r.1 := by simp [unp, List.flatMap_append]
theorem unp_packS (out : List (Bus × Nat)) (b : Bus) : unp (packS out b) = unp out ++ [b] := by
  rcases snoc_cases out with rfl | ⟨o, r, rfl⟩
  · rfl
  · rw [packS_snoc]
    split
    · rename_i h
      rw [unp_snoc, unp_snoc, List.replicate_succ', ← List.append_assoc, h]
    · rw [unp_snoc]; rfl
theorem unp_packL (l : List Bus) : unp (packL l) = l := by
  have : ∀ (l : List Bus) out, unp (l.foldl packS out) = unp out ++ l := by
    intro l
    induction l with
    | nil => intro out; simp
    | cons b l ih => intro out; rw [List.foldl_cons, ih, unp_packS]; simp
  simpa [unp, packL] using this l []
theorem unp_succ {out : List (Bus × Nat)} {i : Nat} (hi : i < out.length) : unp (out.take (i + 1)) = unp (out.take i) ++ List.replicate out[i].2 out[i].1 := by
  rw [List.take_add_one, List.getElem?_eq_getElem hi]
  exact unp_snoc _ _
theorem unp_len (out : List (Bus × Nat)) : (unp out).length = tot out := by
  induction out with
  | nil => rfl
  | cons r l ih => simp only [unp, tot, List.flatMap_cons, List.length_append, List.length_replicate, List.map_cons, List.sum_cons] at ih ⊢; rw [ih]
theorem unp_take_len (l : List Bus) (i : Nat) : (unp ((packL l).take i)).length ≤ l.length := by
  have h : (unp (packL l)).length = l.length := by rw [unp_packL]
  rw [← h, ← List.take_append_drop i (packL l)]
  simp only [unp, List.flatMap_append, List.length_append]
  simp
/-- Neighbours differ. -/
def Dif (out : List (Bus × Nat)) : Prop := ∀ i (h : i + 1 < out.length), out[i].1 ≠ (out[i + 1]).1
theorem dif_packS {out : List (Bus × Nat)} {b : Bus} (h : Dif out) : Dif (packS out b) := by
  rcases snoc_cases out with rfl | ⟨o, r, rfl⟩
  · intro i hi; simp [packS] at hi
  · rw [packS_snoc]
    split
    · intro i hi
      have hi' : i + 1 < (o ++ [r]).length := by simpa using hi
      have := h i hi'
      simp only [List.getElem_append] at this ⊢
      split at this <;> rename_i h1
      · rw [dif_pos h1]
        split at this <;> rename_i h2
        · rw [dif_pos h2]; exact this
        · rw [dif_neg h2]; simpa using this
      · simp at hi'; omega
    · rename_i hne
      intro i hi
      by_cases hlt : i + 1 < (o ++ [r]).length
      · have := h i hlt
        rw [List.getElem_append_left (by omega), List.getElem_append_left hlt]
        exact this
      · have e : i = o.length := by simp at hi hlt; omega
        subst e
        simp
        exact hne
theorem dif_packL (l : List Bus) : Dif (packL l) := by
  have : ∀ (l : List Bus) out, Dif out → Dif (l.foldl packS out) := by
    intro l
    induction l with
    | nil => intro out h; exact h
    | cons b l ih => intro out h; rw [List.foldl_cons]; exact ih _ (dif_packS h)
  exact this l [] (fun i hi => by simp at hi)

/-! ### Each once -/
def dedS (acc : List Int) (x : Int) : List Int := if x ∈ acc then acc else acc ++ [x]
def ded (l : List Int) : List Int := l.foldl dedS []
theorem ded_snoc (l : List Int) (x : Int) : ded (l ++ [x]) = dedS (ded l) x := by rw [ded, List.foldl_append]; rfl
theorem ded_rec {motive : List Int → Prop} (h0 : motive []) (h1 : ∀ l x, motive l → motive (l ++ [x])) (l : List Int) : motive l := by
  have : ∀ n (l : List Int), l.length = n → motive l := by
    intro n
    induction n with
    | zero => intro l h; rw [List.eq_nil_of_length_eq_zero h]; exact h0
    | succ n ih =>
      intro l h
      rcases snoc_cases l with rfl | ⟨o, r, rfl⟩
      · exact h0
      · exact h1 o r (ih o (by simpa using h))
  exact this _ l rfl
theorem mem_ded {l : List Int} {x : Int} : x ∈ ded l ↔ x ∈ l := by
  induction l using ded_rec with
  | h0 => rfl
  | h1 l y ih =>
    rw [ded_snoc, dedS]
    split
    · rename_i h
      rw [ih, List.mem_append, List.mem_singleton]
      constructor
      · exact .inl
      · rintro (h1 | rfl)
        · exact h1
        · exact ih.1 h
    · rw [List.mem_append, List.mem_append, ih]
theorem nodup_ded (l : List Int) : (ded l).Nodup := by
  induction l using ded_rec with
  | h0 => exact List.nodup_nil
  | h1 l y ih =>
    rw [ded_snoc, dedS]
    split
    · exact ih
    · rename_i h
      rw [List.nodup_append]
      refine ⟨ih, by simp, ?_⟩
      intro a ha b hb
      simp at hb
      subst hb
      intro e; subst e; exact h ha
theorem ded_len (l : List Int) : (ded l).length ≤ l.length := by
  induction l using ded_rec with
  | h0 => exact Nat.le_refl _
  | h1 l y ih => rw [ded_snoc, dedS]; split <;> simp <;> omega
theorem sorted_ext : ∀ {l m : List Int}, l.Pairwise (· < ·) → m.Pairwise (· < ·) → (∀ x, x ∈ l ↔ x ∈ m) → l = m
  | [], [], _, _, _ => rfl
  | [], y :: m, _, _, h => by have := (h y).2 (by simp); cases this
  | x :: l, [], _, _, h => by have := (h x).1 (by simp); cases this
  | x :: l, y :: m, hl, hm, h => by
    rw [List.pairwise_cons] at hl hm
    have e : x = y := by
      rcases List.mem_cons.1 ((h x).1 (by simp)) with e | h1
      · exact e
      · rcases List.mem_cons.1 ((h y).2 (by simp)) with e | h2
        · exact e.symm
        · have := hm.1 x h1; have := hl.1 y h2; omega
    subst e
    congr 1
    refine sorted_ext hl.2 hm.2 fun z => ?_
    constructor
    · intro hz
      rcases List.mem_cons.1 ((h z).1 (by simp [hz])) with e | h1
      · subst e; have := hl.1 z hz; omega
      · exact h1
    · intro hz
      rcases List.mem_cons.1 ((h z).2 (by simp [hz])) with e | h1
      · subst e; have := hm.1 z hz; omega
      · exact h1
theorem dd_sorted {l : List Int} (h : l.Pairwise (· ≤ ·)) : (dd l).Pairwise (· < ·) ∧ ∀ x, x ∈ dd l ↔ x ∈ l := by
  induction l using ded_rec with
  | h0 => exact ⟨List.Pairwise.nil, fun x => Iff.rfl⟩
  | h1 l y ih =>
    rw [List.pairwise_append] at h
    obtain ⟨i1, i2⟩ := ih h.1
    have hle : ∀ x ∈ l, x ≤ y := fun x hx => h.2.2 x hx y (by simp)
    rw [dd_snoc, ddS]
    split
    · rename_i e
      refine ⟨i1, fun x => ?_⟩
      rw [i2, List.mem_append, List.mem_singleton]
      constructor
      · exact .inl
      · rintro (h1 | rfl)
        · exact h1
        · exact (i2 x).1 (List.mem_of_getLast? e)
    · rename_i e
      refine ⟨?_, fun x => by rw [List.mem_append, List.mem_append, i2]⟩
      rw [List.pairwise_append]
      refine ⟨i1, by simp, fun a ha b hb => ?_⟩
      simp at hb
      subst hb
      have h1 := hle a ((i2 a).1 ha)
      by_cases hab : a = b
      · subst hab
        exfalso
        rw [dd_last] at e
        rcases snoc_cases l with rfl | ⟨o, r, rfl⟩
        · exact absurd ((i2 a).1 ha) (by simp)
        · simp at e
          have h2 : a ≤ r := by
            rcases List.mem_append.1 ((i2 a).1 ha) with h3 | h3
            · exact (List.pairwise_append.1 h.1).2.2 a h3 r (by simp)
            · simp at h3; omega
          have h3 := hle r (by simp)
          exact e (by omega)
      · omega
theorem ms_sorted (l : List Int) : (l.mergeSort fun x y => decide (x ≤ y)).Pairwise (· ≤ ·) := by
  have := List.pairwise_mergeSort (le := fun x y : Int => decide (x ≤ y)) (fun a b c h1 h2 => by simp at *; omega) (fun a b => by simp; omega) l
  exact this.imp fun h => by simpa using h
theorem ded_dd (l : List Int) : (ded l).mergeSort (fun x y => decide (x ≤ y)) = dd (l.mergeSort fun x y => decide (x ≤ y)) := by
  obtain ⟨h1, h2⟩ := dd_sorted (ms_sorted l)
  refine sorted_ext ?_ h1 fun x => ?_
  · have hp := ms_sorted (ded l)
    have hn : ((ded l).mergeSort fun x y => decide (x ≤ y)).Nodup := (List.mergeSort_perm _ _).nodup_iff.2 (nodup_ded l)
    refine hp.imp₂ ?_ hn
    intro a b h3 h4; omega
  · rw [h2, List.mem_mergeSort, List.mem_mergeSort, mem_ded]
/-! ### The fault of packed runs, as the law counts it -/
def lawS (p : Int × Int) (r : Bus × Int) : Int × Int := (if p.1 ≠ 0 then p.1 else if r.2 < 1 then 1 else if 100000 < r.2 ∨ 100000 < p.2 + r.2 then 2 else 0, p.2 + max 0 (min r.2 100001))
def lawF (l : List (Bus × Int)) : Int × Int := l.foldl lawS (0, 0)
theorem lawF_succ {l : List (Bus × Int)} {i : Nat} (hi : i < l.length) : lawF (l.take (i + 1)) = lawS (lawF (l.take i)) l[i] := by
  rw [List.take_add_one, List.getElem?_eq_getElem hi, lawF, List.foldl_append]; rfl
theorem lawF_inv (l : List (Bus × Int)) : ∀ i, i ≤ l.length → 0 ≤ (lawF (l.take i)).2 ∧ (lawF (l.take i)).2 ≤ i * 100001 ∧ ((lawF (l.take i)).1 ≠ 0 → openE 0 l = (lawF (l.take i)).1) ∧
    ((lawF (l.take i)).1 = 0 → (lawF (l.take i)).2 ≤ 100000 ∧ openE 0 l = openE (lawF (l.take i)).2 (l.drop i)) := by
  intro i
  induction i with
  | zero => intro _; simp [lawF]
  | succ i ih =>
    intro hi
    obtain ⟨h1, h2, h3, h4⟩ := ih (by omega)
    rw [lawF_succ (show i < l.length by omega)]
    generalize lawF (l.take i) = p at *
    obtain ⟨a, b⟩ := p
    have hs := openE_split (n := b) (show i < l.length by omega)
    generalize l[i] = x at *
    simp only [lawS] at *
    refine ⟨by omega, by omega, ?_, ?_⟩
    · intro ha
      by_cases c : a = 0
      · rw [(h4 c).2, hs]
        simp only [c, ne_eq, not_true_eq_false, if_false] at ha ⊢
        split
        · rfl
        · rename_i c1
          rw [if_neg c1] at ha
          split at ha
          · rename_i c2
            rw [if_pos c2, if_pos (by omega)]
          · exact absurd rfl ha
      · rw [if_pos c]; exact h3 c
    · intro ha
      by_cases c : a = 0
      · simp only [c, ne_eq, not_true_eq_false, if_false] at ha
        split at ha
        · cases ha
        · rename_i c1
          split at ha
          · cases ha
          · rename_i c2
            have h5 := h4 c
            rw [if_neg c1, if_neg (by omega)] at hs
            refine ⟨by omega, ?_⟩
            rw [h5.2, hs]
            congr 1
            omega
      · rw [if_pos c] at ha; exact absurd ha c
theorem lawF_all (l : List (Bus × Int)) : (lawF l).1 = openE 0 l := by
  obtain ⟨_, _, h3, h4⟩ := lawF_inv l l.length (Nat.le_refl _)
  rw [List.take_length] at h3 h4
  by_cases c : (lawF l).1 = 0
  · rw [(h4 c).2, List.drop_length, c]; rfl
  · exact (h3 c).symm
theorem openE_ok : ∀ {l : List (Bus × Int)} {n : Int}, openE n l = 0 → 0 ≤ n → n ≤ 100000 → (∀ r ∈ l, 1 ≤ r.2 ∧ r.2 ≤ 100000) ∧ n + tots l ≤ 100000
  | [], n, _, _, _ => ⟨by simp, by simp [tots]; omega⟩
  | r :: l, n, h, h0, h1 => by
    simp only [openE] at h
    split at h
    · cases h
    · split at h
      · cases h
      · rename_i c1 c2
        obtain ⟨k1, k2⟩ := openE_ok h (by omega) (by omega)
        refine ⟨fun x hx => ?_, ?_⟩
        · rcases List.mem_cons.1 hx with rfl | hx
          · omega
          · exact k1 x hx
        · simp only [tots, List.map_cons, List.sum_cons] at k2 ⊢; omega
/-! ### What a trace touches, each once -/
theorem touch_ded {d lo hi : Int} {l : List Bus} {i : Nat} (h : i < l.length) : ded (touch d lo hi (l.take (i + 1))) = if hit d lo hi l[i] = true ∧ l[i].addr ∉ ded (touch d lo hi (l.take i)) then ded (touch d lo hi (l.take i)) ++ [l[i].addr] else ded (touch d lo hi (l.take i)) := by
  rw [touch_succ h]
  by_cases c : hit d lo hi l[i] = true
  · rw [if_pos c, ded_snoc, dedS]
    by_cases c2 : l[i].addr ∈ ded (touch d lo hi (l.take i))
    · rw [if_pos c2, if_neg (fun h => h.2 c2)]
    · rw [if_neg c2, if_pos ⟨c, c2⟩]
  · rw [if_neg c, List.append_nil, if_neg (fun h => c h.1)]
theorem touch_ded_len (d lo hi : Int) (l : List Bus) (i : Nat) : (ded (touch d lo hi (l.take i))).length ≤ i := Nat.le_trans (ded_len _) (touch_len d lo hi l i)
theorem last_succ {addr : Int} {l : List Bus} {i : Nat} (h : i < l.length) : lastR addr (l.take (i + 1)).reverse = if l[i].what ≠ 0 ∧ l[i].addr = addr then .tup [I l[i].data, .bool true] else lastR addr (l.take i).reverse := by
  rw [List.take_add_one, List.getElem?_eq_getElem h, List.reverse_append]
  rfl
theorem lastR_form (addr : Int) (l : List Bus) : ∃ d b, lastR addr l = .tup [I d, .bool b] := by
  induction l with
  | nil => exact ⟨_, _, rfl⟩
  | cons x l ih => rw [lastR]; split; exact ⟨_, _, rfl⟩; exact ih
end Go.Proofs.Ytlagfebklcaaeaa

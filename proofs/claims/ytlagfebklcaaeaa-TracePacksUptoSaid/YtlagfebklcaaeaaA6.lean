/- A value-level machine over the model, part 6: the operations that write to no old block are sound. -/
import Derived.Test.YtlagfebklcaaeaaA5
namespace Go.Proofs.Ytlagfebklcaaeaa
set_option linter.all false

def QR (P : Program) (Hf : Heap) (s : St) (nid : Nat) (d : D) (nb : Option Blk) (x : Sem Next) : Prop :=
  ∃ v s1, x.run P s.w = .ok (.value v) s1.w ∧ Inv Hf s1 ∧ Ext Hf s Hf s1 ∧ Rep s1 d v ∧ (nb = none → s1 = s) ∧ ∀ b, b ≠ nid → s1.ρ b = s.ρ b
section
variable {P : Program} {Hf H : Heap} {s : St} {nid : Nat} {d : D} {nb : Option Blk} {T : Tm} {a : Act}
theorem QR.pure {v : Value} {x : Sem Next} (I : Inv Hf s) (hr : x.run P s.w = .ok (.value v) s.w) (h : Rep s d v) : QR P Hf s nid d nb x :=
  ⟨v, s, hr, I, .refl, h, fun _ => rfl, fun _ _ => rfl⟩
theorem QR.new {v : Value} {x : Sem Next} {blk : Blk} {cs : Array Value} {sz : Nat} (I : Inv Hf s) (hb : Hf[nid]? = some (some blk)) (hn : s.ρ nid = none)
    (hr : x.run P s.w = .ok (.value v) (s.w.alloc (.cells cs blk.elem))) (hsz : sz = blk.sz) (hrow : RowIn s cs 0 sz blk.es) (h : Rep (s.push nid sz cs blk.elem) d v) : QR P Hf s nid d (some blk) x :=
  ⟨v, _, hr, push_inv I hb hn hsz hrow, push_ext I hn _, h, (fun h => by cases h), fun b hb => by simp [St.push, hb]⟩
theorem execV (x : Sem Value) (w : World) : (do Pure.pure (Next.value (← x)) : Sem Next).run P w = (x.run P w).andThen fun v w => .ok (.value v) w := by simp
theorem run_value {x : Sem Value} {w w1 : World} {v : Value} (h : x.run P w = .ok v w1) : (do Pure.pure (Next.value (← x)) : Sem Next).run P w = .ok (.value v) w1 := by simp [h]

theorem RowIn.one {cs : List D} {vs : Array Value} {z : Value} (h : z.cells = vs) (hl : vs.toList.length = cs.length) (hc : ∀ (j : Nat) (x : D), cs[j]? = some x → ∃ u, vs[j]? = some u ∧ u.oneCell' = true ∧ Rep s x u) : RowIn s vs 0 cs.length [cs] := by
  intro e cells he
  cases e with
  | zero =>
    simp at he
    subst he
    refine ⟨rfl, fun j d hj => ?_⟩
    simpa using hc j d hj
  | succ e => simp at he
theorem boxed_spec {sz : Nat} {d : D} {c : List D} (h : boxed sz d = some c) : c = d.cells ∧ c.length = sz ∧ (d.cellB = true ∨ ∃ c, d = .agg c) := by
  unfold boxed at h
  split at h
  · rename_i hc
    cases h
    exact ⟨rfl, hc.1, D.okB_spec hc.2⟩
  · cases h
theorem q_box {t : TypeId} {sz : Nat} {x : D} {v : Value} {c : List D} (I : Inv Hf s) (hx : Rep s x v) (hb : boxed sz x = some c) (hn : Hf[nid]? = some (some ⟨t, sz, [c], 0⟩) ∧ s.ρ nid = none) :
    QR P Hf s nid (.ptr nid 0 0) (some ⟨t, sz, [c], 0⟩) (do Pure.pure (Next.value (← Instr.box t v))) := by
  obtain ⟨rfl, hl, hd⟩ := boxed_spec hb
  obtain ⟨h1, h2⟩ := hx.cells hd
  have hrow := RowIn.one rfl h1 h2
  rw [hl] at hrow
  refine QR.new (v := .pointer (some ⟨s.w.heap.size, 0, none⟩)) (sz := sz) (cs := v.cells) I hn.1 hn.2 (run_value ?_) rfl hrow ?_
  · simp [Instr.box, newVar, newRow]
  · simp only [Rep]
    exact ⟨⟨some s.w.heap.size, 0, sz⟩, s.w.heap.size, by simp [St.push], rfl, by simp⟩
theorem q_new {t : TypeId} {z : List D} (I : Inv Hf s) (hz : zeroT P t = some z) (hn : Hf[nid]? = some (some ⟨t, z.length, [z], 0⟩) ∧ s.ρ nid = none) :
    QR P Hf s nid (.ptr nid 0 0) (some ⟨t, z.length, [z], 0⟩) (do Pure.pure (Next.value (← Instr.alloc t true (.tuple #[])))) := by
  obtain ⟨zv, h1, h2, h3, _, _⟩ := zeroT_run hz s.w
  have hl := RepL_length (h2 s)
  have hrow : RowIn s zv.cells 0 z.length [z] := RowIn.one rfl hl fun j x hj => by
    obtain ⟨u, hu, hr⟩ := RepL_at (h2 s) hj
    exact ⟨u, by simpa using hu, h3 u (List.mem_of_getElem? hu), hr⟩
  refine QR.new (v := .pointer (some ⟨s.w.heap.size, 0, none⟩)) (sz := z.length) (cs := zv.cells) I hn.1 hn.2 (run_value ?_) rfl hrow ?_
  · simp [Instr.alloc, newVar, newRow, h1]
  · simp only [Rep]
    exact ⟨⟨some s.w.heap.size, 0, z.length⟩, s.w.heap.size, by simp [St.push], rfl, by simp⟩

/-! ### Composites -/
theorem foldl_set : ∀ (l : List Value) (k off : Nat) (cs : Array Value), off + k + l.length ≤ cs.size →
    (l.zipIdx k).foldl (fun cs (p : Value × Nat) => cs.setIfInBounds (off + p.2) p.1) cs = (cs.toList.take (off + k) ++ l ++ cs.toList.drop (off + k + l.length)).toArray
  | [], k, off, cs, h => by simp
  | v :: l, k, off, cs, h => by
    simp only [List.zipIdx_cons, List.foldl_cons]
    rw [foldl_set l (k + 1) off _ (by simp at h ⊢; omega)]
    apply Array.ext'
    have e := list_seg_step cs.toList (off + k) v l (by simp at h ⊢; omega)
    simpa [Array.toList_setIfInBounds, Nat.add_assoc] using e
theorem zipIdx_foldl (v : Array Value) (off : Nat) (cs : Array Value) (h : off + v.size ≤ cs.size) :
    v.zipIdx.foldl (fun cs (p : Value × Nat) => cs.setIfInBounds (off + p.2) p.1) cs = (cs.toList.take off ++ v.toList ++ cs.toList.drop (off + v.size)).toArray := by
  have := foldl_set v.toList 0 off cs (by simpa using h)
  rw [← Array.foldl_toList, Array.toList_zipIdx]
  simpa using this
theorem RepL_take {ds : List D} {vs : List Value} (h : RepL s ds vs) (n : Nat) : RepL s (ds.take n) (vs.take n) := by
  refine RepL_of (by simp [RepL_length h]) fun i d v hd hv => ?_
  rw [List.getElem?_take] at hd hv
  split at hd
  · rename_i hi
    rw [if_pos hi] at hv
    obtain ⟨u, hu, hr⟩ := RepL_at h hd
    rw [hv] at hu
    cases hu
    exact hr
  · cases hd
theorem RepL_drop {ds : List D} {vs : List Value} (h : RepL s ds vs) (n : Nat) : RepL s (ds.drop n) (vs.drop n) := by
  refine RepL_of (by simp [RepL_length h]) fun i d v hd hv => ?_
  rw [List.getElem?_drop] at hd hv
  obtain ⟨u, hu, hr⟩ := RepL_at h hd
  rw [hv] at hu
  cases hu
  exact hr
theorem RepL_cells {d : D} {v : Value} (h : Rep s d v) (hd : d.cellB = true ∨ ∃ c, d = .agg c) : RepL s d.cells v.cells.toList ∧ ∀ u ∈ v.cells.toList, u.oneCell' = true := by
  obtain ⟨h1, h2⟩ := h.cells hd
  refine ⟨RepL_of h1 fun i x u hx hu => ?_, fun u hu => ?_⟩
  · obtain ⟨u', hu', _, hr⟩ := h2 i x hx
    simp only [Array.getElem?_toList] at hu
    rw [hu] at hu'
    cases hu'
    exact hr
  · obtain ⟨i, hi⟩ := List.getElem?_of_mem hu
    have hlt : i < d.cells.length := by rw [← h1]; exact (List.getElem?_eq_some_iff.1 hi).1
    obtain ⟨u', hu', h3, _⟩ := h2 i _ (List.getElem?_eq_getElem hlt)
    simp only [Array.getElem?_toList] at hi
    rw [hi] at hu'
    cases hu'
    exact h3
theorem fill_rep {place : Nat → Option (Nat × Nat)} : ∀ {ps : List (Nat × Value)} {qs : List (Nat × Nat × D)} {cells : List D} {vs : Array Value} {c : List D},
    qs.length = ps.length → (∀ (i : Nat) p q, ps[i]? = some p → qs[i]? = some q → place p.1 = some (q.1, q.2.1) ∧ Rep s q.2.2 p.2) → RepL s cells vs.toList → (∀ u ∈ vs.toList, u.oneCell' = true) → fillD cells qs = some c →
    ∃ us, Instr.fill place vs ps = some us ∧ RepL s c us.toList ∧ ∀ u ∈ us.toList, u.oneCell' = true
  | [], [], cells, vs, c, _, _, hr, h1, h => by
    simp [fillD] at h
    subst h
    exact ⟨vs, by simp [Instr.fill], hr, h1⟩
  | [], _ :: _, _, _, _, hl, _, _, _, _ => by simp at hl
  | _ :: _, [], _, _, _, hl, _, _, _, _ => by simp at hl
  | (i, v) :: ps, (off, sz, d) :: qs, cells, vs, c, hl, hp, hr, h1, h => by
    obtain ⟨hpl, hrep⟩ := hp 0 _ _ rfl rfl
    simp only [fillD] at h
    split at h
    · rename_i hc
      obtain ⟨c1, c2, c3⟩ := hc
      have hd := D.okB_spec c3
      obtain ⟨r1, r2⟩ := RepL_cells hrep hd
      have hvs : v.cells.size = sz := by have := RepL_length r1; simp at this; omega
      have hsz : vs.size = cells.length := by have := RepL_length hr; simpa using this
      have hfold := zipIdx_foldl v.cells off vs (by omega)
      simp only [Instr.fill] at hpl ⊢
      have hpl' : place i = some (off, sz) := hpl
      rw [hpl']
      simp only []
      rw [if_neg (by simp; omega), hfold]
      refine fill_rep (by simpa using hl) (fun i p q hp' hq' => hp (i + 1) p q (by simpa using hp') (by simpa using hq')) ?_ ?_ h
      · have e : (cells.take off ++ d.cells ++ cells.drop (off + sz)) = (cells.take off ++ d.cells ++ cells.drop (off + v.cells.size)) := by rw [hvs]
        rw [e]
        exact RepL_append (RepL_append (RepL_take hr off) r1) (RepL_drop hr _)
      · intro u hu
        simp only [List.mem_append] at hu
        rcases hu with (hu | hu) | hu
        · exact h1 u (List.mem_of_mem_take hu)
        · exact r2 u hu
        · exact h1 u (List.mem_of_mem_drop hu)
    · cases h
end
end Go.Proofs.Ytlagfebklcaaeaa

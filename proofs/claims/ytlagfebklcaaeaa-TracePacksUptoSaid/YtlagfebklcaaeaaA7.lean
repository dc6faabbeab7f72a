/- A value-level machine over the model, part 7: rows made by a literal or by make; slices; strings. -/
import Derived.Test.YtlagfebklcaaeaaA6
namespace Go.Proofs.Ytlagfebklcaaeaa
set_option linter.all false
section
variable {P : Program} {Hf H : Heap} {s : St} {nid : Nat} {d : D} {nb : Option Blk} {T : Tm} {a : Act}

theorem shape_new (w : World) (c : Array Value) (t : TypeId) : (w.alloc (.cells c t)).shape? w.heap.size = some (t, c.size) := by
  unfold World.shape?
  rw [heap_alloc_new]
theorem flat_at {α : Type} {sz : Nat} : ∀ {l : List (List α)} {e j : Nat} {c : List α}, (∀ x ∈ l, x.length = sz) → l[e]? = some c → j < sz → l.flatten[e * sz + j]? = c[j]?
  | [], _, _, _, _, h, _ => by simp at h
  | x :: l, 0, j, c, hl, h, hj => by
    simp at h
    subst h
    have := hl x (by simp)
    rw [List.flatten_cons, List.getElem?_append_left (by omega)]
    simp
  | x :: l, e + 1, j, c, hl, h, hj => by
    have hx := hl x (by simp)
    rw [List.flatten_cons, List.getElem?_append_right (by rw [hx, Nat.add_mul]; omega), hx, show (e + 1) * sz + j - sz = e * sz + j from by rw [Nat.add_mul]; omega]
    exact flat_at (fun y hy => hl y (by simp [hy])) (by simpa using h) hj
theorem flat_len {α : Type} {sz : Nat} : ∀ {l : List (List α)}, (∀ x ∈ l, x.length = sz) → l.flatten.length = l.length * sz
  | [], _ => by simp
  | x :: l, h => by
    rw [List.flatten_cons, List.length_append, flat_len (fun y hy => h y (by simp [hy])), h x (by simp), List.length_cons, Nat.add_mul]
    omega
/-- The cells of elements laid side by side. -/
theorem RowIn.flat {sz : Nat} {es : List (List D)} {vss : List (List Value)} (hl : vss.length = es.length) (hsz : ∀ x ∈ vss, x.length = sz)
    (h : ∀ (i : Nat) (e : List D) (vs : List Value), es[i]? = some e → vss[i]? = some vs → RepL s e vs ∧ ∀ u ∈ vs, u.oneCell' = true) {cs : Array Value} (hcs : ∀ i, i < es.length * sz → cs[i]? = vss.flatten[i]?) : RowIn s cs 0 sz es := by
  intro e cells he
  have hlt := (List.getElem?_eq_some_iff.1 he).1
  have hv : vss[e]? = some vss[e] := List.getElem?_eq_getElem (by omega)
  obtain ⟨h1, h2⟩ := h e cells _ he hv
  have hlen := RepL_length h1
  have hz := hsz vss[e] (List.getElem_mem _)
  refine ⟨by omega, fun j d hj => ?_⟩
  obtain ⟨u, hu, hr⟩ := RepL_at h1 hj
  have hjz : j < sz := by have := (List.getElem?_eq_some_iff.1 hj).1; omega
  refine ⟨u, ?_, h2 u (List.mem_of_getElem? hu), hr⟩
  rw [Nat.zero_add, hcs _ (by have : (e + 1) * sz ≤ es.length * sz := Nat.mul_le_mul_right _ hlt; rw [Nat.add_mul] at this; omega), flat_at hsz hv hjz]
  exact hu
theorem fill_row {sz : Nat} : ∀ (ps : List (Nat × Value)) (k : Nat) (cells : Array Value), ps.map (·.1) = List.range' k ps.length → (∀ p ∈ ps, p.2.cells.size = sz) → (k + ps.length) * sz ≤ cells.size →
    Instr.fill (fun i => some (i * sz, sz)) cells ps = some (cells.toList.take (k * sz) ++ (ps.map (·.2.cells.toList)).flatten ++ cells.toList.drop ((k + ps.length) * sz)).toArray
  | [], k, cells, _, _, _ => by simp [Instr.fill]
  | (i, v) :: ps, k, cells, hi, hz, hl => by
    simp only [List.map_cons, List.length_cons, List.range'_succ, List.cons.injEq] at hi
    obtain ⟨rfl, hi⟩ := hi
    have hv : v.cells.size = sz := hz (i, v) (by simp)
    have hle : i * sz + sz ≤ cells.size := by
      have : (i + 1) * sz ≤ (i + (ps.length + 1)) * sz := Nat.mul_le_mul_right _ (by omega)
      simp only [List.length_cons] at hl
      rw [Nat.add_mul] at this
      omega
    simp only [Instr.fill]
    rw [if_neg (by simp; omega), zipIdx_foldl v.cells (i * sz) cells (by omega)]
    have e1 : (cells.toList.take (i * sz) ++ v.cells.toList ++ cells.toList.drop (i * sz + v.cells.size)).length = cells.size := by
      simp; omega
    rw [fill_row ps (i + 1) _ hi (fun p hp => hz p (by simp [hp])) (by simp only [List.length_cons] at hl; simp only [List.size_toArray, e1]; rw [show i + 1 + ps.length = i + (ps.length + 1) from by omega]; exact hl)]
    congr 2
    simp only [List.map_cons, List.flatten_cons, List.length_cons]
    have t1 : (cells.toList.take (i * sz) ++ v.cells.toList ++ cells.toList.drop (i * sz + v.cells.size)).take ((i + 1) * sz) = cells.toList.take (i * sz) ++ v.cells.toList := by
      rw [List.take_append_of_le_length (by simp; rw [Nat.add_mul]; omega), List.take_of_length_le (by simp; rw [Nat.add_mul]; omega)]
    have t2 : (cells.toList.take (i * sz) ++ v.cells.toList ++ cells.toList.drop (i * sz + v.cells.size)).drop ((i + 1 + ps.length) * sz) = cells.toList.drop ((i + (ps.length + 1)) * sz) := by
      have hlen : (cells.toList.take (i * sz) ++ v.cells.toList).length = i * sz + sz := by simp; omega
      rw [List.drop_append, hlen, List.drop_of_length_le (by rw [hlen, Nat.add_mul, Nat.add_mul]; omega), List.nil_append, List.drop_drop]
      congr 1
      rw [hv, Nat.add_mul, Nat.add_mul, Nat.add_mul, Nat.add_mul]
      omega
    rw [t1, t2]
    simp [List.append_assoc]
theorem q_bsl {t e : TypeId} {sz n : Nat} {xs : List D} {ps : List (Nat × Value)} {es : List (List D)} (I : Inv Hf s) (ht : sliceT P t = some e) (hsz : szT P e = some sz) (hp : ps.map (·.1) = List.range n) (hbig : n * sz ≤ 2 ^ 24)
    (hz : n * sz = 0 ∨ (zeroT P e).isSome) (hx : RepL s xs (ps.map (·.2))) (hes : optAll (boxed sz) xs = some es) (hn : Hf[nid]? = some (some ⟨e, sz, es, 0⟩) ∧ s.ρ nid = none) :
    QR P Hf s nid (.osl nid 0 es.length true) (some ⟨e, sz, es, 0⟩) (do Pure.pure (Next.value (← Instr.buildSlice t n ps.toArray))) := by
  obtain ⟨h1, h2⟩ := optAll_spec hes
  have hlen : ps.length = n := by have := congrArg List.length hp; simpa using this
  have hxl := RepL_length hx
  simp only [List.length_map] at hxl
  have hz0 : ∃ zs : Array Value, (n * sz = 0 ∧ zs = #[]) ∨ (n * sz ≠ 0 ∧ ∃ z, (zeroValue e).run P s.w = .ok z s.w ∧ zs = z.cells) := by
    by_cases h0 : n * sz = 0
    · exact ⟨#[], .inl ⟨h0, rfl⟩⟩
    · rcases hz with hz | hz
      · exact absurd hz h0
      · obtain ⟨zd, hzd⟩ := Option.isSome_iff_exists.1 hz
        obtain ⟨z, hr, _⟩ := zeroT_run hzd s.w
        exact ⟨z.cells, .inr ⟨h0, z, hr, rfl⟩⟩
  obtain ⟨zs, hzs⟩ := hz0
  have part : ∀ (i : Nat) (p : Nat × Value), ps[i]? = some p → ∃ x c, xs[i]? = some x ∧ es[i]? = some c ∧ c = x.cells ∧ RepL s c p.2.cells.toList ∧ (∀ u ∈ p.2.cells.toList, u.oneCell' = true) ∧ p.2.cells.size = sz := by
    intro i p hpi
    have hlt : i < xs.length := by have := (List.getElem?_eq_some_iff.1 hpi).1; omega
    obtain ⟨v, hv, hr⟩ := RepL_at hx (List.getElem?_eq_getElem hlt)
    rw [List.getElem?_map, hpi] at hv
    cases hv
    obtain ⟨c, hc, hb⟩ := h2 i _ (List.getElem?_eq_getElem hlt)
    obtain ⟨b1, b2, b3⟩ := boxed_spec hb
    obtain ⟨r1, r2⟩ := RepL_cells hr b3
    refine ⟨_, c, List.getElem?_eq_getElem hlt, hc, b1, by rw [b1]; exact r1, r2, ?_⟩
    have := RepL_length r1
    rw [← b1] at this
    simpa [b2] using this
  have hps : ∀ p ∈ ps, p.2.cells.size = sz := fun p hp => by
    obtain ⟨i, hi⟩ := List.getElem?_of_mem hp
    obtain ⟨_, _, _, _, _, _, _, h⟩ := part i p hi
    exact h
  have hfill := fill_row (sz := sz) ps 0 ((Array.range (n * sz)).map (zs[· % zs.size]!)) (by rw [hp, hlen, List.range_eq_range']) hps (by simp [hlen])
  have hflat : (ps.map (·.2.cells.toList)).flatten.length = n * sz := by
    rw [flat_len (sz := sz) (fun x hx => by
      obtain ⟨p, hp, rfl⟩ := List.mem_map.1 hx
      simpa using hps p hp)]
    simp [hlen]
  simp only [Nat.zero_mul, List.take_zero, List.nil_append, Nat.zero_add, hlen, Array.toList_map, Array.toList_range] at hfill
  rw [List.drop_of_length_le (by simp), List.append_nil] at hfill
  refine QR.new (v := .slice (some ⟨s.w.heap.size, 0, none⟩) n n) (sz := sz) (cs := ((ps.map (·.2.cells.toList)).flatten).toArray) I hn.1 hn.2 (run_value ?_) rfl ?_ ?_
  · have hb' : ¬ (n * sz > 2 ^ 24) := by omega
    rcases hzs with ⟨h0, rfl⟩ | ⟨h0, z, hzr, rfl⟩
    · simp only [Instr.buildSlice, Sem.run_bind, run_underlying (sliceT_spec ht), Result.andThen_ok, szT_run hsz, Sem.run_ite, if_neg hb', if_pos h0, Sem.run_pure, hfill]
      simp [newRow]
    · simp only [Instr.buildSlice, Sem.run_bind, run_underlying (sliceT_spec ht), Result.andThen_ok, szT_run hsz, Sem.run_ite, if_neg hb', if_neg h0, Sem.run_pure, hzr, hfill]
      simp [newRow]
  · refine RowIn.flat (vss := ps.map (·.2.cells.toList)) (by simp; omega) (fun x hx => by
      obtain ⟨p, hp, rfl⟩ := List.mem_map.1 hx
      simpa using hps p hp) (fun i c vs hc hv => ?_) (fun i hi => by simp)
    rw [List.getElem?_map] at hv
    cases hpi : ps[i]? with
    | none => rw [hpi] at hv; cases hv
    | some p =>
      rw [hpi] at hv
      cases hv
      obtain ⟨x, c', _, hc', _, r1, r2, _⟩ := part i p hpi
      rw [hc] at hc'
      cases hc'
      exact ⟨r1, r2⟩
  · simp only [Rep]
    have hel : es.length = n := by omega
    refine ⟨⟨some s.w.heap.size, 0, sz⟩, n, by simp [St.push], by omega, by simp [hel], .inr ⟨s.w.heap.size, e, n * sz, rfl, by simp [hel], ?_, by simp⟩⟩
    show (s.w.alloc _).shape? _ = _
    rw [shape_new]; simp only [List.size_toArray, hflat]
theorem q_mks {t e : TypeId} {i : TypeInfo} {z : List D} {kl kc : IntKind} {l c : Int} (I : Inv Hf s) (ht : sliceT P t = some e) (hi : P.info? e = some i) (hz : zeroT P e = some z) (h0 : 0 ≤ l) (hlc : l ≤ c)
    (hb : (i.bytes : Int) * c ≤ 281474976710656) (h63 : c ≤ 9223372036854775807) (hn : Hf[nid]? = some (some ⟨e, i.size, List.replicate l.toNat z, 0⟩) ∧ s.ρ nid = none) :
    QR P Hf s nid (.osl nid 0 l.toNat (decide (l = c))) (some ⟨e, i.size, List.replicate l.toNat z, 0⟩) (do Pure.pure (Next.value (← Instr.makeSlice t (.int kl l) (.int kc c)))) := by
  obtain ⟨zv, z1, z2, z3, z4, i', hi', hz'⟩ := zeroT_run hz s.w
  rw [hi] at hi'
  cases hi'
  have hsz : i.size = z.length := by simpa [szT, hi] using z4
  have hzl : zv.cells.size = z.length := by have := RepL_length (z2 s); simpa using this
  refine QR.new (v := .slice (some ⟨s.w.heap.size, 0, none⟩) l.toNat c.toNat) (sz := z.length) (cs := madeCells zv.cells (c.toNat * i.size)) I hn.1 hn.2 (run_value (run_make s.w t e i zv (sliceT_spec ht) hi hz' kl kc l c h0 hlc hb h63)) hsz.symm ?_ ?_
  · intro k cells hk
    rw [List.getElem?_replicate] at hk
    split at hk
    · rename_i hlt
      cases hk
      refine ⟨rfl, fun j d hj => ?_⟩
      have hjl := (List.getElem?_eq_some_iff.1 hj).1
      obtain ⟨u, hu, hr⟩ := RepL_at (z2 s) hj
      refine ⟨u, ?_, z3 u (List.mem_of_getElem? hu), hr⟩
      have hle : (k + 1) * z.length ≤ c.toNat * z.length := Nat.mul_le_mul_right _ (by omega)
      rw [Nat.add_mul] at hle
      have hlt2 : k * z.length + j < c.toNat * i.size := by rw [hsz]; omega
      simp only [madeCells, Nat.zero_add, Array.getElem?_map, hzl]
      rw [Array.getElem?_eq_getElem (by simpa using hlt2)]
      simp only [Array.getElem_range, Option.map_some, Option.some.injEq]
      rw [Nat.mul_comm, Nat.mul_add_mod, Nat.mod_eq_of_lt hjl]
      have : zv.cells[j]? = some u := by simpa using hu
      simp [getElem!_def, this]
    · cases hk
  · simp only [Rep]
    refine ⟨⟨some s.w.heap.size, 0, z.length⟩, c.toNat, by simp [St.push], by omega, by simp; omega, .inr ⟨s.w.heap.size, e, c.toNat * i.size, rfl, by simp, ?_, by simp [hsz]⟩⟩
    show (s.w.alloc _).shape? _ = _
    rw [shape_new, size_madeCells]
end
end Go.Proofs.Ytlagfebklcaaeaa

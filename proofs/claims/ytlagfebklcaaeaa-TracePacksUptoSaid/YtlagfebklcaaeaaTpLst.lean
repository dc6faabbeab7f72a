/- trace.Last, as a function of data. -/
import Derived.Test.YtlagfebklcaaeaaTpLast
import Derived.Test.YtlagfebklcaaeaaTpTch
namespace Go.Proofs.Ytlagfebklcaaeaa
set_option linter.all false
/-- What is found, from the end. -/
def lastR (addr : Int) : List Bus → D
  | [] => .tup [I 0, .bool false]
  | b :: l => if b.what ≠ 0 ∧ b.addr = addr then .tup [I b.data, .bool true] else lastR addr l
theorem lastR_pure (addr : Int) (l : List Bus) : pureD (lastR addr l) = true := by
  induction l with
  | nil => rfl
  | cons b l ih => unfold lastR; split; rfl; exact ih
theorem lastR_none (addr : Int) (l : List Bus) (h : ∀ b ∈ l, ¬ (b.what ≠ 0 ∧ b.addr = addr)) : lastR addr l = .tup [I 0, .bool false] := by
  induction l with
  | nil => rfl
  | cons b l ih => rw [lastR, if_neg (h b (by simp))]; exact ih fun x hx => h x (by simp [hx])
theorem lastR_some (addr : Int) (l m : List Bus) (b : Bus) (h : ∀ b ∈ l, ¬ (b.what ≠ 0 ∧ b.addr = addr)) (hb : b.what ≠ 0 ∧ b.addr = addr) : lastR addr (l ++ b :: m) = .tup [I b.data, .bool true] := by
  induction l with
  | nil => rw [List.nil_append, lastR, if_pos hb]
  | cons x l ih => rw [List.cons_append, lastR, if_neg (h x (by simp))]; exact ih fun x hx => h x (by simp [hx])
theorem last_ok (l : List Bus) (f : Bool) (addr : Int) (hl : l.length ≤ 1048576) : Fn Try.prog 13 [.sl 3 f (l.map busC), I addr] (lastR addr l.reverse) := by
  refine Fn.of_pure ((ac_of_below (by kernel_rfl) fun s vs hI hvs => ?_).mono fun _ _ h => h.1) (by simp [pureL, pureD, pure_map, busC]) (lastR_pure _ _)
  obtain ⟨vs⟩ := vs
  simp only [RepL] at hvs
  obtain ⟨v, rest, rfl, hv, v2, rest2, rfl, hv2, rfl⟩ := hvs
  simp only [Rep] at hv hv2
  subst hv2
  obtain ⟨a, cap, rfl, hcap, _, hrow⟩ := hv
  let zs : Nat → BusT := fun j => ((l.getD j ⟨0, 0, 0⟩).what, (l.getD j ⟨0, 0, 0⟩).addr, (l.getD j ⟨0, 0, 0⟩).data)
  have hz : ∀ j (hj : j < l.length), zs j = (l[j].what, l[j].addr, l[j].data) := fun j hj => by simp [zs, hj]
  have hB : Buses s.w.heap.size s.w a (l.map busC).length cap zs := by
    rcases hrow with h | ⟨g, o, rfl, hr⟩
    · exact .inl (by rw [h]; rfl)
    · by_cases h0 : (l.map busC).length = 0
      · exact .inl h0
      · have cell : ∀ j, j < (l.map busC).length → s.w.cell? ⟨g, o + j * 3, none⟩ = some (.int .i64 (zs j).1) ∧ s.w.cell? ⟨g, o + j * 3 + 1, none⟩ = some (.int .i64 (zs j).2.1) ∧ s.w.cell? ⟨g, o + j * 3 + 2, none⟩ = some (.int .i64 (zs j).2.2) := by
          intro j hj
          have hj' : j < l.length := by simpa using hj
          have hc := (RepR_at hr (i := j) (e := busC l[j]) (by simp [hj'])).2
          rw [hz j hj']
          simp only [busC, RepC] at hc
          obtain ⟨⟨u1, a1, _, _, b1⟩, ⟨u2, a2, _, _, b2⟩, ⟨u3, a3, _, _, b3⟩, _⟩ := hc
          rw [rep_int b1] at a1
          rw [rep_int b2] at a2
          rw [rep_int b3] at a3
          exact ⟨a1, a2, a3⟩
        exact .inr ⟨g, o, rfl, cell_lt (cell 0 (by omega)).1, cell⟩
  rw [List.length_map] at hB ⊢
  refine (callsIn_wide (n := 3)).1 ((last_in Fence.wide 3 trivial trivial trivial rfl (Nat.le_refl _) a l.length cap zs hl addr s.w hB).mono ?_)
  have hit : ∀ j (hj : j < l.length), Hit addr (zs j) ↔ (l[j].what ≠ 0 ∧ l[j].addr = addr) := fun j hj => by rw [hz j hj]; rfl
  rintro e W' ⟨⟨rfl, hno⟩ | ⟨k, hk, rfl, hyes, hno⟩, hb⟩
  · refine ⟨_, rfl, hb, fun s1 => ?_⟩
    rw [lastR_none]
    · simp only [Rep]; exact ⟨_, rfl, by simp [RepL, Rep]⟩
    · intro b hb'
      rw [List.mem_reverse] at hb'
      obtain ⟨j, hj, rfl⟩ := List.mem_iff_getElem.1 hb'
      exact fun h => hno j hj ((hit j hj).2 h)
  · refine ⟨_, rfl, hb, fun s1 => ?_⟩
    have hj : l.length - 1 - k < l.length := by omega
    have hs : l.reverse = l.reverse.take k ++ l[l.length - 1 - k] :: l.reverse.drop (k + 1) := by
      have hk' : k < l.reverse.length := by simpa using hk
      have h1 := List.take_append_drop k l.reverse
      rw [List.drop_eq_getElem_cons hk', List.getElem_reverse] at h1
      exact h1.symm
    rw [hs, lastR_some addr _ _ _ _ ((hit _ hj).1 hyes)]
    · rw [hz _ hj]; simp only [Rep]; exact ⟨_, rfl, by simp [RepL, Rep]⟩
    · intro b hb'
      obtain ⟨j, hjl, rfl⟩ := List.mem_iff_getElem.1 hb'
      simp only [List.length_take, List.length_reverse] at hjl
      rw [List.getElem_take, List.getElem_reverse]
      exact fun h => hno j (by omega) ((hit _ (by omega)).2 h)
end Go.Proofs.Ytlagfebklcaaeaa

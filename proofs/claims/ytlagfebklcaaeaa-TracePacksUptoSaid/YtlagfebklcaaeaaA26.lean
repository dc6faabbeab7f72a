/- A value-level machine over the model, part 26: what the library's sort leaves. -/
import Derived.Test.YtlagfebklcaaeaaA25
import Derived.Sort.Row
import Derived.Sort.Grow
namespace Go.Proofs.Ytlagfebklcaaeaa
set_option linter.all false
open Go.Sort
section
variable {H : Heap} {s : St}
theorem heap_grow_old (w : World) (os : Array Obj) {c : Nat} (h : c < w.heap.size) : (grow w os).heap[c]? = w.heap[c]? := by
  simp [grow, Array.getElem?_append_left h]
def St.wd (s : St) (w : World) : St := ⟨w, s.ρ, s.NI⟩
theorem grown_step (I : Inv H s) (os : Array Obj) : Inv H (s.wd (grow s.w os)) ∧ Ext H s H (s.wd (grow s.w os)) := by
  have hs : s.w.heap.size ≤ (grow s.w os).heap.size := by simp [grow]
  have M : Mono s (s.wd (grow s.w os)) := ⟨fun c o u h _ => (cell_of_heap (heap_grow_old s.w os (cell_lt h))).trans h, fun _ _ _ _ h => h, fun _ _ h => h, fun c x h => (shape_of_heap (heap_grow_old s.w os (shape_lt h))).trans h⟩
  refine ⟨⟨I.dom, fun b blk l hb hl => (I.rel b blk l hb hl).mono M fun c hc => ?_, I.inj, I.cov, fun c o h => Nat.lt_of_lt_of_le (I.lim c o h) hs⟩, ?_⟩
  · obtain ⟨cs, hcs, _⟩ := (I.rel b blk l hb hl).row c hc
    exact heap_grow_old s.w os (Array.getElem?_eq_some_iff.1 hcs).1
  · exact ⟨hs, rfl, rfl, rfl, fun c o hc _ => cell_of_heap (heap_grow_old s.w os hc), fun c hc _ => heap_grow_old s.w os hc, fun c hc => shape_of_heap (heap_grow_old s.w os hc), fun _ _ h => h, fun _ _ h => .inl h, fun _ _ h => .inl h, fun _ _ h => .inl h⟩
theorem ahead_step (I : Inv H s) (n : Nat) : Inv H (s.wd (Go.Sort.ahead s.w n)) ∧ Ext H s H (s.wd (Go.Sort.ahead s.w n)) := by
  have M : Mono s (s.wd (Go.Sort.ahead s.w n)) := ⟨fun c o u h _ => h, fun _ _ _ _ h => h, fun _ _ h => h, fun c x h => h⟩
  exact ⟨⟨I.dom, fun b blk l hb hl => (I.rel b blk l hb hl).mono M fun _ _ => rfl, I.inj, I.cov, I.lim⟩,
    ⟨Nat.le_refl _, rfl, rfl, rfl, fun _ _ _ _ => rfl, fun _ _ _ => rfl, fun _ _ => rfl, fun _ _ h => h, fun _ _ h => .inl h, fun _ _ h => .inl h, fun _ _ h => .inl h⟩⟩
theorem putRow_setRow {enc : Int → Value} {w : World} {g off : Nat} {d : Array Int} {cs : Array Value} {e : TypeId} (h : w.heap[g]? = some (.cells cs e (0, 0))) : putRow enc w g off d = w.setRow g (putCells enc off d cs) := by
  unfold putRow mapBlock World.setRow
  congr 1
  apply Array.ext_getElem?
  intro i
  rw [Array.getElem?_modify, Array.getElem?_modify]
  split
  · rename_i e1
    subst e1
    rw [h]
    rfl
  · rfl
theorem put_ints (I : Inv H s) {b g : Nat} {e : TypeId} {l : Loc} {cs : Array Value} {zs zs' : List Int} (hb : H[b]? = some (some ⟨e, 1, zs.map (fun n => [Go.Proofs.Ytlagfebklcaaeaa.I n]), 0⟩)) (hl : s.ρ b = some l) (hg : l.blk = some g) (hcs : s.w.heap[g]? = some (.cells cs e (0, 0))) (hz : zs'.length = zs.length) :
    Inv (H.set b (some ⟨e, 1, zs'.map (fun n => [Go.Proofs.Ytlagfebklcaaeaa.I n]), 0⟩)) (s.wd (putRow (Value.int .i64) s.w g l.off zs'.toArray)) ∧ Ext H s (H.set b (some ⟨e, 1, zs'.map (fun n => [Go.Proofs.Ytlagfebklcaaeaa.I n]), 0⟩)) (s.wd (putRow (Value.int .i64) s.w g l.off zs'.toArray)) := by
  rw [putRow_setRow hcs]
  have hbr := I.rel b _ l hb hl
  obtain ⟨cs0, hcs0, hrow⟩ := hbr.row g hg
  rw [hcs] at hcs0
  cases hcs0
  have hsz : l.sz = 1 := hbr.size
  have hin : ∀ i, i < zs.length → l.off + i < cs.size := fun i hi => by
    obtain ⟨_, h2⟩ := hrow i [Go.Proofs.Ytlagfebklcaaeaa.I zs[i]] (by simp [hi])
    obtain ⟨u, hu, _⟩ := h2 0 _ rfl
    have := (Array.getElem?_eq_some_iff.1 hu).1
    rw [hsz] at this
    omega
  refine row_step (cs' := putCells (Value.int .i64) l.off zs'.toArray cs) (blk' := ⟨e, 1, zs'.map (fun n => [Go.Proofs.Ytlagfebklcaaeaa.I n]), 0⟩) I hb hl hg hcs (by simp [putCells]) (fun o ho => ?_) rfl rfl (Nat.le_refl _) (fun i cells hi => ?_)
  · simp only [putCells, Array.getElem?_mapIdx]
    have ho' : o < l.off := by simpa using ho
    have hf : ¬ (l.off ≤ o ∧ o < l.off + zs'.toArray.size) := by omega
    simp only [if_neg hf]
    cases cs[o]? <;> rfl
  · rw [List.getElem?_map, Option.map_eq_some_iff] at hi
    obtain ⟨z, hz', rfl⟩ := hi
    have hil := (List.getElem?_eq_some_iff.1 hz').1
    refine ⟨hsz.symm, fun j d hj => ?_⟩
    cases j with
    | succ j => simp at hj
    | zero =>
      simp at hj
      subst hj
      refine ⟨.int .i64 z, ?_, rfl, by simp only [Rep]⟩
      have hk := hin i (by omega)
      simp only [putCells, Array.getElem?_mapIdx, hsz, Nat.mul_one, Nat.add_zero]
      rw [Array.getElem?_eq_getElem hk]
      simp only [Option.map_some]
      rw [if_pos (by simp; omega)]
      have : l.off + i - l.off = i := by omega
      rw [this]
      have hz2 := (List.getElem?_eq_some_iff.1 hz').2
      simp [getElem!_pos, hil, hz2]
/-- The sort of an own list of ints, out of the library's contract. -/
theorem sort_ac {P : Program} {f : FuncId} {b : Nat} {e : TypeId} {full : Bool} {zs : List Int} (hok : bodyOk P f = true) (hb : blkOf H b = some ⟨e, 1, zs.map (fun n => [Go.Proofs.Ytlagfebklcaaeaa.I n]), 0⟩) (hz : zs.length < 4611686018427387904)
    (h0 : ∀ (p : Option Addr) (cap : Nat) (w : World), Calls P f #[.slice p 0 cap] w fun e w' => e = .returned (.tuple #[]) ∧ w' = w)
    (h1 : ∀ (blk off cap : Nat) (w : World), Holds (Value.int .i64) w blk off zs.toArray → blk < w.heap.size → Calls P f #[.slice (some ⟨blk, off, none⟩) zs.length cap] w fun e w' =>
      e = .returned (.tuple #[]) ∧ ∃ n os, w' = grow (putRow (Value.int .i64) (Go.Sort.ahead w n) blk off (zs.mergeSort fun x y => decide (x ≤ y)).toArray) os) :
    AC P f H [.osl b 0 zs.length full] fun r H1 => r = .tup [] ∧ H1 = H.set b (some ⟨e, 1, (zs.mergeSort fun x y => decide (x ≤ y)).map (fun n => [Go.Proofs.Ytlagfebklcaaeaa.I n]), 0⟩) := by
  refine ⟨hok, fun s vs I hvs => ?_⟩
  simp only [RepL] at hvs
  obtain ⟨v, rest, hv, hr, hrest⟩ := hvs
  subst hrest
  have hvs : vs = #[v] := by apply Array.ext'; simpa using hv
  subst hvs
  have htup : ∀ s : St, Rep s (.tup []) (.tuple #[]) := fun s => by simp only [Rep]; exact ⟨#[], rfl, by simp [RepL]⟩
  simp only [Rep] at hr
  obtain ⟨l, cap, hρ, hcap, _, hx⟩ := hr
  have hbs := blkOf_some hb
  rcases hx with ⟨hn, rfl, a, rfl⟩ | ⟨g, el, N, hg, rfl, hshape, hN⟩
  · have : zs = [] := List.eq_nil_of_length_eq_zero hn
    subst this
    refine (h0 a 0 s.w).mono fun e' w' ⟨he, hw⟩ => ?_
    subst he hw
    refine ⟨_, _, _, s, rfl, rfl, ⟨rfl, rfl⟩, ?_, ?_, htup s⟩
    · have hset : H.set b (some ⟨e, 1, (([] : List Int).mergeSort fun x y => decide (x ≤ y)).map (fun n => [Go.Proofs.Ytlagfebklcaaeaa.I n]), 0⟩) = H := by
        apply List.ext_getElem?
        intro i
        rw [List.getElem?_set]
        split
        · rename_i e1
          subst e1
          rw [hbs]
          split
          · simp
          · rename_i hlt; exact absurd (List.getElem?_eq_some_iff.1 hbs).1 hlt
        · rfl
      rw [hset]; exact I
    · have hset : H.set b (some ⟨e, 1, (([] : List Int).mergeSort fun x y => decide (x ≤ y)).map (fun n => [Go.Proofs.Ytlagfebklcaaeaa.I n]), 0⟩) = H := by
        apply List.ext_getElem?
        intro i
        rw [List.getElem?_set]
        split
        · rename_i e1
          subst e1
          rw [hbs]
          split
          · simp
          · rename_i hlt; exact absurd (List.getElem?_eq_some_iff.1 hbs).1 hlt
        · rfl
      rw [hset]; exact .refl
  · have hbr := I.rel b _ l hbs hρ
    obtain ⟨cs, hcs, hrow⟩ := hbr.row g hg
    have hsz : l.sz = 1 := hbr.size
    have hH : Holds (Value.int .i64) s.w g l.off zs.toArray := fun j hj => by
      have hj' : j < zs.length := by simpa using hj
      obtain ⟨_, h2⟩ := hrow j [Go.Proofs.Ytlagfebklcaaeaa.I zs[j]] (by simp [hj'])
      obtain ⟨u, hu, _, hr⟩ := h2 0 _ rfl
      simp only [Rep] at hr
      subst hr
      rw [hsz] at hu
      refine ⟨?_, ?_⟩
      · rw [cell_of_row _ _ _ _ _ _ hcs]
        simpa [hj', getElem!_pos] using hu
      · simp [World.frozen?, hcs]
    have hlt : g < s.w.heap.size := (Array.getElem?_eq_some_iff.1 hcs).1
    have hoff : l.off + 0 * l.sz = l.off := by omega
    rw [hoff]
    refine (h1 g l.off cap s.w hH hlt).mono fun e' w' ⟨he, n, os, hw⟩ => ?_
    subst he hw
    obtain ⟨a1, a2⟩ := ahead_step I n
    obtain ⟨b1, b2⟩ := put_ints (s := s.wd (Go.Sort.ahead s.w n)) (zs' := zs.mergeSort fun x y => decide (x ≤ y)) a1 hbs hρ hg hcs (by simp)
    obtain ⟨c1, c2⟩ := grown_step b1 os
    exact ⟨_, _, _, _, rfl, rfl, ⟨rfl, rfl⟩, c1, (a2.trans I b2).trans I c2, htup _⟩
end
end Go.Proofs.Ytlagfebklcaaeaa

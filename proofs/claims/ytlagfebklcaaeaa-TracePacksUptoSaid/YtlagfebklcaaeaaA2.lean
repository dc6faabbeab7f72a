/- A value-level machine over the model, part 2: what a new block, a write into an own block, a draw, and giving up a block do to the state. -/
import Derived.Test.YtlagfebklcaaeaaA1
import Derived.Laws.MakeOwn
import Derived.Laws.OwnMore
namespace Go.Proofs.Ytlagfebklcaaeaa
set_option linter.all false

theorem shape_of_heap {w w1 : World} {c : Nat} (h : w1.heap[c]? = w.heap[c]?) : w1.shape? c = w.shape? c := by simp [World.shape?, h]
theorem cell_of_heap {w w1 : World} {c o : Nat} (h : w1.heap[c]? = w.heap[c]?) : w1.cell? ⟨c, o, none⟩ = w.cell? ⟨c, o, none⟩ := by simp [World.cell?, h]

/-- What the elements of a block say of the block's cells. -/
def RowIn (s : St) (cs : Array Value) (off sz : Nat) (es : List (List D)) : Prop :=
  ∀ e cells, es[e]? = some cells → cells.length = sz ∧ ∀ j d, cells[j]? = some d → ∃ u, cs[off + e * sz + j]? = some u ∧ u.oneCell' = true ∧ Rep s d u
theorem RowIn.mono {s s1 : St} (E : Mono s s1) {cs : Array Value} {off sz : Nat} {es : List (List D)} (h : RowIn s cs off sz es) : RowIn s1 cs off sz es := by
  intro e cells he
  obtain ⟨h1, h2⟩ := h e cells he
  exact ⟨h1, fun j d hj => let ⟨u, a, b, c⟩ := h2 j d hj; ⟨u, a, b, Rep.mono E d u c⟩⟩
theorem BRel.mono {s s1 : St} (E : Mono s s1) {blk : Blk} {l : Loc} (h : BRel s blk l) (hh : ∀ c, l.blk = some c → s1.w.heap[c]? = s.w.heap[c]?) : BRel s1 blk l :=
  ⟨h.size, h.nil, fun c hc => let ⟨cs, h1, h2⟩ := h.row c hc; ⟨cs, (hh c hc).trans h1, RowIn.mono E h2⟩⟩

/-! ### A draw -/
def St.drew (s : St) : St := { s with w := s.w.drew }
theorem drew_mono (s : St) : Mono s s.drew := ⟨fun _ _ _ h _ => h, fun _ _ _ _ h => h, fun _ _ h => h, fun _ _ h => h⟩
theorem Inv.drew {H : Heap} {s : St} (I : Inv H s) : Inv H s.drew :=
  ⟨I.dom, fun b blk l hb hl => (I.rel b blk l hb hl).mono (drew_mono s) fun _ _ => rfl, I.inj, I.cov, I.lim⟩
theorem Ext.drew {H : Heap} {s : St} : Ext H s H s.drew :=
  ⟨Nat.le_refl _, rfl, rfl, rfl, fun _ _ _ _ => rfl, fun _ _ _ => rfl, fun _ _ => rfl, fun _ _ h => h, fun _ _ h => .inl h, fun _ _ h => .inl h, fun _ _ h => .inl h⟩

/-! ### A new block -/
def St.push (s : St) (nid sz : Nat) (cs : Array Value) (elem : TypeId) : St :=
  ⟨s.w.alloc (.cells cs elem), fun b => if b = nid then some ⟨some s.w.heap.size, 0, sz⟩ else s.ρ b, fun c o => s.NI c o ∨ c = s.w.heap.size⟩
section
variable {Hf : Heap} {s : St} {nid sz : Nat} {blk : Blk} {cs : Array Value}
theorem push_mono (I : Inv Hf s) (hn : s.ρ nid = none) (elem : TypeId) : Mono s (s.push nid sz cs elem) where
  cell c o u h _ := by
    have := cell_lt h
    show (s.w.alloc _).cell? ⟨c, o, none⟩ = _
    rw [World.cell?_alloc_lt _ _ _ this]; exact h
  ni c o u h hn2 h1 := by
    rcases h1 with h1 | h1
    · exact hn2 h1
    · have := cell_lt h; omega
  rho b l h := by
    show (if b = nid then _ else s.ρ b) = some l
    rw [if_neg (fun e => by subst e; rw [hn] at h; cases h)]; exact h
  shape c x h := by
    have := shape_lt h
    exact (shape_of_heap (heap_alloc_old s.w _ c this)).trans h
theorem push_wr (hn : s.ρ nid = none) {elem : TypeId} {c o : Nat} (h : Wr Hf (s.push nid sz cs elem).ρ c o) : Wr Hf s.ρ c o ∨ c = s.w.heap.size := by
  obtain ⟨b, bk, l, h1, h2, h3, h4⟩ := h
  simp only [St.push] at h2
  split at h2
  · cases h2; simp at h3; exact .inr h3.symm
  · exact .inl ⟨b, bk, l, h1, h2, h3, h4⟩
theorem push_inv (I : Inv Hf s) (hb : Hf[nid]? = some (some blk)) (hn : s.ρ nid = none) (hsz : sz = blk.sz) (hrow : RowIn s cs 0 sz blk.es) : Inv Hf (s.push nid sz cs blk.elem) where
  dom b l h := by
    simp only [St.push] at h
    split at h
    · subst_vars; exact (List.getElem?_eq_some_iff.1 hb).1
    · exact I.dom b l h
  rel b bk l hbk hl := by
    have M := push_mono (sz := sz) (cs := cs) I hn blk.elem
    simp only [St.push] at hl
    split at hl
    · rename_i e
      subst e
      cases hl
      rw [hb] at hbk
      cases hbk
      refine ⟨hsz, by simp, fun c hc => ?_⟩
      simp at hc
      subst hc
      exact ⟨cs, heap_alloc_new s.w _, RowIn.mono M hrow⟩
    · refine (I.rel b bk l hbk hl).mono M fun c hc => ?_
      obtain ⟨cs0, h0, _⟩ := (I.rel b bk l hbk hl).row c hc
      exact heap_alloc_old s.w _ c (Array.getElem?_eq_some_iff.1 h0).1
  inj b b' bk bk' l l' c h1 h2 h3 h4 h5 h6 := by
    have old : ∀ {b bk l}, Hf[b]? = some (some bk) → s.ρ b = some l → l.blk = some c → c < s.w.heap.size := fun h1 h3 h5 => by
      obtain ⟨cs0, h0, _⟩ := (I.rel _ _ _ h1 h3).row c h5
      exact (Array.getElem?_eq_some_iff.1 h0).1
    simp only [St.push] at h3 h4
    split at h3 <;> split at h4
    · subst_vars; rfl
    · cases h3; simp at h5; have := old h2 h4 h6; omega
    · cases h4; simp at h6; have := old h1 h3 h5; omega
    · exact I.inj b b' bk bk' l l' c h1 h2 h3 h4 h5 h6
  cov c o h := by
    rcases push_wr hn h with h | h
    · exact .inl (I.cov c o h)
    · exact .inr h
  lim c o h := by
    show c < (s.w.alloc _).heap.size
    rw [World.size_alloc]
    rcases h with h | h
    · have := I.lim c o h; omega
    · omega
theorem push_ext (I : Inv Hf s) (hn : s.ρ nid = none) (elem : TypeId) : Ext Hf s Hf (s.push nid sz cs elem) where
  size := by show _ ≤ (s.w.alloc _).heap.size; rw [World.size_alloc]; omega
  os := rfl
  tape := rfl
  output := rfl
  cell c o hc _ := World.cell?_alloc_lt _ _ _ hc
  obj c hc _ := heap_alloc_old s.w _ c hc
  shape c hc := shape_of_heap (heap_alloc_old s.w _ c hc)
  rho := (push_mono (sz := sz) (cs := cs) I hn elem).rho
  wr c o h := (push_wr hn h).imp id (by omega)
  ni c o h := h.imp id (by omega)
  keep c o h := .inl (.inl h)
end

/-! ### Heaps that say less, or more of blocks that are not there yet -/
theorem Inv.less {H H1 : Heap} {s : St} (I : Inv H s) (hd : ∀ b l, s.ρ b = some l → b < H1.length) (h : ∀ b blk, H1[b]? = some (some blk) → (s.ρ b).isSome → H[b]? = some (some blk)) : Inv H1 s where
  dom := hd
  rel b blk l hb hl := I.rel b blk l (h b blk hb (by simp [hl])) hl
  inj b b' bk bk' l l' c h1 h2 h3 h4 h5 h6 := I.inj b b' bk bk' l l' c (h b bk h1 (by simp [h3])) (h b' bk' h2 (by simp [h4])) h3 h4 h5 h6
  cov c o hw := by
    obtain ⟨b, bk, l, h1, h2, h3⟩ := hw
    exact I.cov c o ⟨b, bk, l, h b bk h1 (by simp [h2]), h2, h3⟩
  lim := I.lim
theorem rho_none {H : Heap} {s : St} (I : Inv H s) {n : Nat} (hn : H.length ≤ n) : s.ρ n = none := by
  cases h : s.ρ n with
  | none => rfl
  | some l => have := I.dom n l h; omega
theorem Inv.more {H : Heap} {s : St} (I : Inv H s) (xs : Heap) : Inv (H ++ xs) s :=
  I.less (fun b l h => by have := I.dom b l h; simp; omega) (fun b blk hb hs => by
    cases h : s.ρ b with
    | none => simp [h] at hs
    | some l => rwa [List.getElem?_append_left (I.dom b l h)] at hb)
theorem wr_more {H : Heap} {s : St} (I : Inv H s) (xs : Heap) {c o : Nat} : Wr (H ++ xs) s.ρ c o ↔ Wr H s.ρ c o := by
  constructor
  · rintro ⟨b, bk, l, h1, h2, h3⟩
    exact ⟨b, bk, l, by rwa [List.getElem?_append_left (I.dom b l h2)] at h1, h2, h3⟩
  · rintro ⟨b, bk, l, h1, h2, h3⟩
    exact ⟨b, bk, l, by rwa [List.getElem?_append_left (I.dom b l h2)], h2, h3⟩
theorem Ext.of_more {H H1 : Heap} {s s1 : St} (I : Inv H s) {xs : Heap} (E : Ext (H ++ xs) s H1 s1) : Ext H s H1 s1 where
  size := E.size
  os := E.os
  tape := E.tape
  output := E.output
  cell c o hc hw := E.cell c o hc fun h => hw ((wr_more I xs).1 h)
  obj c hc hw := E.obj c hc fun o h => hw o ((wr_more I xs).1 h)
  shape := E.shape
  rho := E.rho
  wr c o h := (E.wr c o h).imp (wr_more I xs).1 id
  ni := E.ni
  keep c o h := (E.keep c o h).imp id (wr_more I xs).1

/-! ### A write into an own block -/
def St.row (s : St) (c : Nat) (cs : Array Value) : St := { s with w := s.w.setRow c cs }
section
variable {H : Heap} {s : St} {b c : Nat} {blk blk' : Blk} {l : Loc} {cs cs' : Array Value}
theorem row_facts (I : Inv H s) (hb : H[b]? = some (some blk)) (hl : s.ρ b = some l) (hc : l.blk = some c) (hcs : s.w.heap[c]? = some (.cells cs blk.elem (0, 0))) (hsz : cs'.size = cs.size)
    (hsame : ∀ o, o < l.off + blk.ro * l.sz → cs'[o]? = cs[o]?) :
    (∀ c1 o, ¬ Wr H s.ρ c1 o → (s.w.setRow c cs').cell? ⟨c1, o, none⟩ = s.w.cell? ⟨c1, o, none⟩) ∧ (∀ c1, c1 ≠ c → (s.w.setRow c cs').heap[c1]? = s.w.heap[c1]?) ∧
      (s.w.setRow c cs').heap[c]? = some (.cells cs' blk.elem (0, 0)) ∧ (∀ c1, (s.w.setRow c cs').shape? c1 = s.w.shape? c1) := by
  have h1 := setRow_heap s.w c cs cs' _ _ hcs
  have h2 : ∀ c1, c1 ≠ c → (s.w.setRow c cs').heap[c1]? = s.w.heap[c1]? := fun c1 h => setRow_other s.w c c1 cs' h
  refine ⟨fun c1 o hw => ?_, h2, h1, fun c1 => ?_⟩
  · by_cases e : c1 = c
    · subst e
      have hlt : o < l.off + blk.ro * l.sz := by
        refine Nat.lt_of_not_le fun hle => hw ⟨b, blk, l, hb, hl, hc, hle⟩
      simp [World.cell?, h1, hcs, hsame o hlt]
    · exact cell_of_heap (h2 c1 e)
  · by_cases e : c1 = c
    · subst e
      simp [World.shape?, h1, hcs, hsz]
    · exact shape_of_heap (h2 c1 e)
theorem row_step (I : Inv H s) (hb : H[b]? = some (some blk)) (hl : s.ρ b = some l) (hc : l.blk = some c) (hcs : s.w.heap[c]? = some (.cells cs blk.elem (0, 0))) (hsz : cs'.size = cs.size)
    (hsame : ∀ o, o < l.off + blk.ro * l.sz → cs'[o]? = cs[o]?) (he : blk'.elem = blk.elem) (hs' : blk'.sz = blk.sz) (hro : blk.ro ≤ blk'.ro) (hrow : RowIn s cs' l.off l.sz blk'.es) :
    Inv (H.set b (some blk')) (s.row c cs') ∧ Ext H s (H.set b (some blk')) (s.row c cs') := by
  obtain ⟨f1, f2, f3, f4⟩ := row_facts (cs' := cs') I hb hl hc hcs hsz hsame
  have M : Mono s (s.row c cs') := ⟨fun c1 o u h hn => (f1 c1 o fun hw => hn (I.cov _ _ hw)).trans h, fun _ _ _ _ h => h, fun _ _ h => h, fun c1 x h => (f4 c1).trans h⟩
  have hlt := (List.getElem?_eq_some_iff.1 hb).1
  have hset : ∀ {b1 bk1}, (H.set b (some blk'))[b1]? = some (some bk1) → (b1 = b ∧ bk1 = blk') ∨ (b1 ≠ b ∧ H[b1]? = some (some bk1)) := by
    intro b1 bk1 h
    rw [List.getElem?_set] at h
    split at h
    · rename_i e
      first
        | (rw [if_pos hlt] at h; exact .inl ⟨e.symm, by simpa using h.symm⟩)
        | exact .inl ⟨e.symm, by simpa using h.symm⟩
    · rename_i hne; exact .inr ⟨fun e => hne e.symm, h⟩
  have live : ∀ {b1 bk1}, (H.set b (some blk'))[b1]? = some (some bk1) → ∃ bk0, H[b1]? = some (some bk0) := fun h => by
    rcases hset h with ⟨e, _⟩ | ⟨_, h⟩
    · rw [e]; exact ⟨blk, hb⟩
    · exact ⟨_, h⟩
  have hwr : ∀ {c1 o}, Wr (H.set b (some blk')) s.ρ c1 o → Wr H s.ρ c1 o := by
    rintro c1 o ⟨b1, bk1, l1, h1, h2, h3, h4⟩
    rcases hset h1 with ⟨e1, e2⟩ | ⟨_, h⟩
    · rw [e1, hl] at h2
      cases h2
      rw [e2] at h4
      exact ⟨b, blk, l, hb, hl, h3, Nat.le_trans (Nat.add_le_add_left (Nat.mul_le_mul_right _ hro) _) h4⟩
    · exact ⟨b1, bk1, l1, h, h2, h3, h4⟩
  refine ⟨⟨fun b1 l1 h => by simpa using I.dom b1 l1 h, fun b1 bk1 l1 h1 h2 => ?_, fun b1 b2 bk1 bk2 l1 l2 c1 h1 h2 h3 h4 h5 h6 => ?_, fun c1 o h => I.cov _ _ (hwr h), fun c1 o h => by simpa [St.row] using I.lim c1 o h⟩, ?_⟩
  · rcases hset h1 with ⟨e1, e2⟩ | ⟨hne, h⟩
    · have h2' : s.ρ b1 = some l1 := h2
      rw [e1, hl] at h2'
      cases h2'
      rw [e2]
      refine ⟨((I.rel b blk l hb hl).size).trans hs'.symm, fun h => (by rw [hc] at h; cases h), fun c1 h => ?_⟩
      rw [hc] at h
      cases h
      exact ⟨cs', by rw [he]; exact f3, RowIn.mono M hrow⟩
    · refine (I.rel b1 bk1 l1 h h2).mono M fun c1 h3 => f2 c1 fun e => ?_
      subst e
      exact hne (I.inj b1 b bk1 blk l1 l c1 h hb h2 hl h3 hc)
  · obtain ⟨k1, g1⟩ := live h1
    obtain ⟨k2, g2⟩ := live h2
    exact I.inj b1 b2 k1 k2 l1 l2 c1 g1 g2 h3 h4 h5 h6
  · exact ⟨by simp [St.row], rfl, rfl, rfl, fun c1 o _ hw => f1 c1 o hw, fun c1 _ hw => f2 c1 fun e => by subst e; exact hw _ ⟨b, blk, l, hb, hl, hc, Nat.le_refl _⟩,
      fun c1 _ => f4 c1, fun _ _ h => h, fun c1 o h => .inl (hwr h), fun _ _ h => .inl h, fun _ _ h => .inl h⟩
end

theorem set_get {H : Heap} {i b1 : Nat} {x : Option Blk} {bk1 : Blk} (h : (H.set i x)[b1]? = some (some bk1)) : (b1 = i ∧ x = some bk1) ∨ (b1 ≠ i ∧ H[b1]? = some (some bk1)) := by
  rw [List.getElem?_set] at h
  by_cases e : i = b1
  · rw [if_pos e] at h
    split at h
    · exact .inl ⟨e.symm, Option.some.inj h⟩
    · cases h
  · rw [if_neg e] at h
    exact .inr ⟨fun k => e k.symm, h⟩
/-- A block is given another name: its elements from k on. -/
theorem move_step {H : Heap} {s : St} (I : Inv H s) {b k nid : Nat} {blk : Blk} {l : Loc} (hb : H[b]? = some (some blk)) (hl : s.ρ b = some l) (hnid : H[nid]? = some none) (hfree : s.ρ nid = none) :
    let s1 : St := { s with ρ := fun n => if n = nid then some ⟨l.blk, l.off + k * l.sz, l.sz⟩ else s.ρ n }
    Inv ((H.set b none).set nid (some ⟨blk.elem, blk.sz, blk.es.drop k, blk.ro - k⟩)) s1 ∧ Ext H s ((H.set b none).set nid (some ⟨blk.elem, blk.sz, blk.es.drop k, blk.ro - k⟩)) s1 ∧ Mono s s1 := by
  intro s1
  have hlt := (List.getElem?_eq_some_iff.1 hnid).1
  have M : Mono s s1 := ⟨fun _ _ _ h _ => h, fun _ _ _ _ h => h, fun b1 l1 h => by
    show (if b1 = nid then _ else s.ρ b1) = _
    rw [if_neg (fun e => by subst e; rw [hfree] at h; cases h)]; exact h, fun _ _ h => h⟩
  have hget : ∀ {b1 : Nat} {bk1 : Blk} {l1 : Loc}, ((H.set b none).set nid (some ⟨blk.elem, blk.sz, blk.es.drop k, blk.ro - k⟩))[b1]? = some (some bk1) → s1.ρ b1 = some l1 →
      (b1 = nid ∧ bk1 = ⟨blk.elem, blk.sz, blk.es.drop k, blk.ro - k⟩ ∧ l1 = ⟨l.blk, l.off + k * l.sz, l.sz⟩) ∨ (b1 ≠ b ∧ H[b1]? = some (some bk1) ∧ s.ρ b1 = some l1) := by
    intro b1 bk1 l1 h1 h2
    have h2' : (if b1 = nid then some ⟨l.blk, l.off + k * l.sz, l.sz⟩ else s.ρ b1) = some l1 := h2
    rcases set_get h1 with ⟨e, h⟩ | ⟨e, h⟩
    · rw [if_pos e] at h2'
      exact .inl ⟨e, (Option.some.inj h).symm, (Option.some.inj h2').symm⟩
    · rw [if_neg e] at h2'
      rcases set_get h with ⟨_, h⟩ | ⟨e2, h⟩
      · cases h
      · exact .inr ⟨e2, h, h2'⟩
  have hwr : ∀ {c o : Nat}, Wr ((H.set b none).set nid (some ⟨blk.elem, blk.sz, blk.es.drop k, blk.ro - k⟩)) s1.ρ c o → Wr H s.ρ c o := by
    rintro c o ⟨b1, bk1, l1, h1, h2, h3, h4⟩
    rcases hget h1 h2 with ⟨_, rfl, rfl⟩ | ⟨_, h, h'⟩
    · refine ⟨b, blk, l, hb, hl, h3, Nat.le_trans ?_ h4⟩
      show _ ≤ l.off + k * l.sz + (blk.ro - k) * l.sz
      rw [Nat.add_assoc, ← Nat.add_mul]
      exact Nat.add_le_add_left (Nat.mul_le_mul_right _ (by omega)) _
    · exact ⟨b1, bk1, l1, h, h', h3, h4⟩
  refine ⟨⟨fun b1 l1 h => ?_, fun b1 bk1 l1 h1 h2 => ?_, fun b1 b2 bk1 bk2 l1 l2 c1 h1 h2 h3 h4 h5 h6 => ?_, fun c o h => I.cov _ _ (hwr h), I.lim⟩, ?_, M⟩
  · have h' : (if b1 = nid then some ⟨l.blk, l.off + k * l.sz, l.sz⟩ else s.ρ b1) = some l1 := h
    simp only [List.length_set]
    split at h'
    · omega
    · exact I.dom b1 l1 h'
  · rcases hget h1 h2 with ⟨_, rfl, rfl⟩ | ⟨_, h, h'⟩
    · obtain ⟨r0, r1, r2⟩ := I.rel b blk l hb hl
      refine ⟨r0, fun h => by simp [r1 h], fun c hc => ?_⟩
      obtain ⟨cs, hcs, hrow⟩ := r2 c hc
      refine ⟨cs, hcs, fun e cells he => ?_⟩
      simp only [List.getElem?_drop] at he
      obtain ⟨q1, q2⟩ := hrow _ _ he
      refine ⟨q1, fun j d hj => ?_⟩
      obtain ⟨u, u1, u2, u3⟩ := q2 j d hj
      refine ⟨u, ?_, u2, Rep.mono M d u u3⟩
      rw [show l.off + k * l.sz + e * l.sz + j = l.off + (k + e) * l.sz + j from by rw [Nat.add_mul]; omega]
      exact u1
    · exact (I.rel b1 bk1 l1 h h').mono M fun _ _ => rfl
  · rcases hget h1 h3 with ⟨e1, _, rfl⟩ | ⟨n1, g1, g1'⟩ <;> rcases hget h2 h4 with ⟨e2, _, rfl⟩ | ⟨n2, g2, g2'⟩
    · rw [e1, e2]
    · exact absurd (I.inj b2 b bk2 blk l2 l c1 g2 hb g2' hl h6 h5) n2
    · exact absurd (I.inj b1 b bk1 blk l1 l c1 g1 hb g1' hl h5 h6) n1
    · exact I.inj b1 b2 bk1 bk2 l1 l2 c1 g1 g2 g1' g2' h5 h6
  · exact ⟨Nat.le_refl _, rfl, rfl, rfl, fun _ _ _ _ => rfl, fun _ _ _ => rfl, fun _ _ => rfl, M.rho, fun c o h => .inl (hwr h), fun _ _ h => .inl h, fun _ _ h => .inl h⟩
/-- A place that nothing was laid at takes a block. -/
theorem Inv.place {H : Heap} {s : St} (I : Inv H s) {nid : Nat} (hfree : s.ρ nid = none) (x : Option Blk) : Inv (H.set nid x) s :=
  I.less (fun b l h => by simpa using I.dom b l h) fun b blk hb hs => by
    rcases set_get hb with ⟨e, _⟩ | ⟨_, h⟩
    · rw [e, hfree] at hs; cases hs
    · exact h
theorem wr_place {H : Heap} {s : St} {nid : Nat} (hfree : s.ρ nid = none) (x : Option Blk) {c o : Nat} (hn : H[nid]? = some none) : Wr (H.set nid x) s.ρ c o ↔ Wr H s.ρ c o := by
  constructor
  · rintro ⟨b, bk, l, h1, h2, h3⟩
    rcases set_get h1 with ⟨e, _⟩ | ⟨_, h⟩
    · rw [e, hfree] at h2; cases h2
    · exact ⟨b, bk, l, h, h2, h3⟩
  · rintro ⟨b, bk, l, h1, h2, h3⟩
    refine ⟨b, bk, l, ?_, h2, h3⟩
    rw [List.getElem?_set_ne (fun e => by subst e; rw [hn] at h1; cases h1)]
    exact h1
theorem Ext.of_place {H H1 : Heap} {s s1 : St} {nid : Nat} (hfree : s.ρ nid = none) {x : Option Blk} (hn : H[nid]? = some none) (E : Ext (H.set nid x) s H1 s1) : Ext H s H1 s1 where
  size := E.size
  os := E.os
  tape := E.tape
  output := E.output
  cell c o hc hw := E.cell c o hc fun h => hw ((wr_place hfree x hn).1 h)
  obj c hc hw := E.obj c hc fun o h => hw o ((wr_place hfree x hn).1 h)
  shape := E.shape
  rho := E.rho
  wr c o h := (E.wr c o h).imp (wr_place hfree x hn).1 id
  ni := E.ni
  keep c o h := (E.keep c o h).imp id (wr_place hfree x hn).1
end Go.Proofs.Ytlagfebklcaaeaa

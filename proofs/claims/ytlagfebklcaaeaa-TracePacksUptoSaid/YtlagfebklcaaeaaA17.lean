/- A value-level machine over the model, part 17: the frame of a call; lending; taking over what was made. -/
import Derived.Test.YtlagfebklcaaeaaA16
namespace Go.Proofs.Ytlagfebklcaaeaa
set_option linter.all false
/-- A call of data alone: in whatever heap, it turns nothing; where it makes a block, that takes the place nid. -/
def ACN (P : Program) (f : FuncId) (xs : List D) (d : Nat → D) (nb : Option Blk) : Prop :=
  bodyOk P f = true ∧ ∀ H s vs nid, Inv H s → RepL s xs vs.toList → (nb.isSome = true → H[nid]? = some none ∧ s.ρ nid = none) → Calls P f vs s.w fun e w => ∃ v s1, e = .returned v ∧ s1.w = w ∧ Inv (newH H nid nb) s1 ∧ Ext H s (newH H nid nb) s1 ∧ Rep s1 (d nid) v ∧ ∀ b, (nb.isSome = true → b ≠ nid) → s1.ρ b = s.ρ b
/-- A function of data alone. -/
def Fn (P : Program) (f : FuncId) (xs : List D) (r : D) : Prop := ACN P f xs (fun _ => r) none
/-- A function of data alone whose result is a new slice, the caller's own. -/
def FnOwn (P : Program) (f : FuncId) (xs : List D) (e : TypeId) (sz : Nat) (es : List (List D)) : Prop := ACN P f xs (fun nid => .osl nid 0 es.length false) (some ⟨e, sz, es, 0⟩)
section
variable {P : Program} {H : Heap} {s s1 : St} {f : FuncId} {xs : List D} {r : D}
/-- The state as a call sees it that sees no block. -/
def St.bare (s : St) (NI : Nat → Nat → Prop) : St := ⟨s.w, fun _ => none, NI⟩
theorem bare_inv {NI : Nat → Nat → Prop} (h : ∀ c o, NI c o → c < s.w.heap.size) : Inv [] (s.bare NI) :=
  ⟨fun _ _ h => by simp [St.bare] at h, fun _ _ _ h => by simp at h, fun _ _ _ _ _ _ _ h => by simp at h, fun _ _ h => by obtain ⟨_, _, _, h, _⟩ := h; simp at h, h⟩
theorem no_wr {ρ : Nat → Option Loc} {c o : Nat} : ¬ Wr [] ρ c o := by rintro ⟨_, _, _, h, _⟩; simp at h
/-- Behind a call that saw no block, the caller's state over the new world. -/
def St.over (s : St) (w : World) : St := ⟨w, s.ρ, s.NI⟩
theorem over_step {NI : Nat → Nat → Prop} {H2 : Heap} {s2 : St} (I : Inv H s) (E : Ext [] (s.bare NI) H2 s2) : Inv H (s.over s2.w) ∧ Ext H s H (s.over s2.w) ∧ Mono s (s.over s2.w) := by
  have hobj : ∀ c, c < s.w.heap.size → s2.w.heap[c]? = s.w.heap[c]? := fun c hc => E.obj c hc fun _ => no_wr
  have M : Mono s (s.over s2.w) := ⟨fun c o u h _ => (cell_of_heap (hobj c (cell_lt h))).trans h, fun _ _ _ _ h => h, fun _ _ h => h, fun c x h => (shape_of_heap (hobj c (shape_lt h))).trans h⟩
  refine ⟨⟨I.dom, fun b blk l hb hl => (I.rel b blk l hb hl).mono M fun c hc => ?_, I.inj, I.cov, fun c o h => Nat.lt_of_lt_of_le (I.lim c o h) E.size⟩, ?_, M⟩
  · obtain ⟨cs, hcs, _⟩ := (I.rel b blk l hb hl).row c hc
    exact hobj c (Array.getElem?_eq_some_iff.1 hcs).1
  · exact ⟨E.size, E.os, E.tape, E.output, fun c o hc _ => cell_of_heap (hobj c hc), fun c hc _ => hobj c hc, fun c hc => shape_of_heap (hobj c hc), fun _ _ h => h, fun _ _ h => .inl h, fun _ _ h => .inl h, fun _ _ h => .inl h⟩
/-- THE FRAME: arguments without own blocks; the result is read as data. -/
theorem Fn.of (h : AC P f [] xs fun r' H' => Lend H' r' r) (hp : pureL xs = true) : Fn P f xs r := by
  refine ⟨h.1, fun H s vs nid I hvs _ => ?_⟩
  have I0 := bare_inv (s := s) (NI := s.NI) I.lim
  have M0 : PMono s (s.bare s.NI) := ⟨fun _ _ _ h _ => h, fun _ _ _ _ h => h⟩
  refine (h.2 (s.bare s.NI) vs I0 (RepL.pmono M0 _ _ hp hvs)).mono fun e w ⟨v, r', H2, s2, h1, h2, h3, I2, E2, h4⟩ => ?_
  subst h1 h2
  obtain ⟨k1, k2, k3⟩ := over_step I E2
  refine ⟨v, s.over s2.w, rfl, rfl, k1, k2, Lend.rep (s1 := s.over s2.w) ⟨I2, rfl, fun c o hc => ?_⟩ h3 v h4, fun _ _ => rfl⟩
  have hc' : s.NI c o := hc
  refine ⟨?_, fun b blk l hb hl he => ?_⟩
  · rcases E2.keep c o hc' with h | h
    · exact h
    · exact absurd h no_wr
  · have hlim := I.lim c o hc'
    obtain ⟨cs, hcs, _⟩ := (I2.rel b blk l (blkOf_some hb) hl).row c he
    have hwr : Wr H2 s2.ρ c (l.off + blk.ro * l.sz) := ⟨b, blk, l, blkOf_some hb, hl, he, Nat.le_refl _⟩
    rcases E2.wr c _ hwr with h | h
    · exact no_wr h
    · have h' : s.w.heap.size ≤ c := h
      omega
theorem Fn.of_pure (h : AC P f [] xs fun r' _ => r' = r) (hp : pureL xs = true) (hr : pureD r = true) : Fn P f xs r :=
  Fn.of (h.mono fun r' H' e => by subst e; exact .pure hr) hp
theorem Fn.ac (h : Fn P f xs r) (H : Heap) : AC P f H xs fun r' H' => r' = r ∧ H' = H :=
  ⟨h.1, fun s vs I hv => (h.2 H s vs 0 I hv (fun h => by cases h)).mono fun _ _ ⟨v, s1, h1, h2, h3, h4, h5, _⟩ => ⟨v, r, H, s1, h1, h2, ⟨rfl, rfl⟩, h3, h4, h5⟩⟩
/-- LENDING: the arguments' own blocks are read as data; the result bears no memory. -/
theorem AC.lend {xs' : List D} (h : AC P f [] xs' fun r' _ => r' = r) (hl : LendL H xs xs') (hr : flatD r = true) : AC P f H xs fun r' H' => r' = r ∧ H' = H := by
  refine ⟨h.1, fun s vs I hvs => ?_⟩
  have I0 := bare_inv (s := s) (NI := fun _ _ => False) (fun _ _ h => h.elim)
  have V : View H s (s.bare fun _ _ => False) := ⟨I, rfl, fun _ _ h => h.elim⟩
  refine (h.2 (s.bare fun _ _ => False) vs I0 (LendL.rep V hl _ hvs)).mono fun e w ⟨v, r', H2, s2, h1, h2, h3, I2, E2, h4⟩ => ?_
  subst h1 h2 h3
  obtain ⟨k1, k2, k3⟩ := over_step I E2
  exact ⟨v, r', H, s.over s2.w, rfl, rfl, ⟨rfl, rfl⟩, k1, k2, Rep.flat _ _ hr h4⟩
theorem Fn.lend {xs' : List D} (h : Fn P f xs' r) (hl : LendL H xs xs') (hr : flatD r = true) : AC P f H xs fun r' H' => r' = r ∧ H' = H :=
  AC.lend ((h.ac []).mono fun _ _ k => k.1) hl hr

/-- What of a result is the caller's own from now on: block b of the callee's gets the name m. -/
theorem own_over {NI : Nat → Nat → Prop} {H2 : Heap} {s2 : St} (I : Inv H s) (I2 : Inv H2 s2) (E : Ext [] (s.bare NI) H2 s2) {b nid : Nat} (hnid : H[nid]? = some none) (hfree : s.ρ nid = none) {blk : Blk} {l : Loc} {es : List (List D)}
    (hb : blkOf H2 b = some blk) (hl : s2.ρ b = some l) (hes : ∀ (s3 : St), s3.w = s2.w → s3.NI = (fun c o => s.NI c o ∨ (s.w.heap.size ≤ c ∧ s2.NI c o)) → BRel s3 ⟨blk.elem, blk.sz, es, blk.ro⟩ l) :
    let s3 : St := ⟨s2.w, fun n => if n = nid then some l else s.ρ n, fun c o => s.NI c o ∨ (s.w.heap.size ≤ c ∧ s2.NI c o)⟩
    Inv (H.set nid (some ⟨blk.elem, blk.sz, es, blk.ro⟩)) s3 ∧ Ext H s (H.set nid (some ⟨blk.elem, blk.sz, es, blk.ro⟩)) s3 := by
  intro s3
  have hobj : ∀ c, c < s.w.heap.size → s2.w.heap[c]? = s.w.heap[c]? := fun c hc => E.obj c hc fun _ => no_wr
  have hlt' := (List.getElem?_eq_some_iff.1 hnid).1
  have hnew : ∀ c, l.blk = some c → s.w.heap.size ≤ c := fun c hc => by
    rcases E.wr c _ ⟨b, blk, l, blkOf_some hb, hl, hc, Nat.le_refl _⟩ with h | h
    · exact absurd h no_wr
    · exact h
  have hlt : ∀ c, l.blk = some c → c < s2.w.heap.size := fun c hc => by
    obtain ⟨cs, hcs, _⟩ := (I2.rel b blk l (blkOf_some hb) hl).row c hc
    exact (Array.getElem?_eq_some_iff.1 hcs).1
  have M : Mono s s3 := ⟨fun c o u h _ => (cell_of_heap (hobj c (cell_lt h))).trans h, fun c o u h hn h1 => by
      rcases h1 with h1 | h1
      · exact hn h1
      · have := cell_lt h; omega, fun b1 l1 h => by
      show (if b1 = nid then _ else s.ρ b1) = _
      rw [if_neg (fun e => by subst e; rw [hfree] at h; cases h)]; exact h, fun c x h => (shape_of_heap (hobj c (shape_lt h))).trans h⟩
  have hget : ∀ {b1 : Nat} {bk1 : Blk} {l1 : Loc}, (H.set nid (some (⟨blk.elem, blk.sz, es, blk.ro⟩ : Blk)))[b1]? = some (some bk1) → s3.ρ b1 = some l1 →
      (b1 = nid ∧ bk1 = ⟨blk.elem, blk.sz, es, blk.ro⟩ ∧ l1 = l) ∨ (H[b1]? = some (some bk1) ∧ s.ρ b1 = some l1) := by
    intro b1 bk1 l1 h1 h2
    have h2' : (if b1 = nid then some l else s.ρ b1) = some l1 := h2
    rcases set_get h1 with ⟨e, h⟩ | ⟨e, h⟩
    · rw [if_pos e] at h2'
      exact .inl ⟨e, (Option.some.inj h).symm, (Option.some.inj h2').symm⟩
    · rw [if_neg e] at h2'
      exact .inr ⟨h, h2'⟩
  have old : ∀ {b1 : Nat} {bk1 : Blk} {l1 : Loc} {c : Nat}, H[b1]? = some (some bk1) → s.ρ b1 = some l1 → l1.blk = some c → c < s.w.heap.size := fun h1 h2 h3 => by
    obtain ⟨cs, hcs, _⟩ := (I.rel _ _ _ h1 h2).row _ h3
    exact (Array.getElem?_eq_some_iff.1 hcs).1
  refine ⟨⟨fun b1 l1 h => ?_, fun b1 bk1 l1 h1 h2 => ?_, fun b1 b2 bk1 bk2 l1 l2 c h1 h2 h3 h4 h5 h6 => ?_, fun c o h => ?_, fun c o h => ?_⟩, ?_⟩
  · have h' : (if b1 = nid then some l else s.ρ b1) = some l1 := h
    simp only [List.length_set]
    split at h'
    · omega
    · exact I.dom b1 l1 h'
  · rcases hget h1 h2 with ⟨_, rfl, rfl⟩ | ⟨g1, g2⟩
    · exact hes s3 rfl rfl
    · exact (I.rel b1 bk1 l1 g1 g2).mono M fun c hc => hobj c (old g1 g2 hc)
  · rcases hget h1 h3 with ⟨e1, _, rfl⟩ | ⟨g1, g2⟩ <;> rcases hget h2 h4 with ⟨e2, _, rfl⟩ | ⟨g3, g4⟩
    · rw [e1, e2]
    · have := old g3 g4 h6; have := hnew c h5; omega
    · have := old g1 g2 h5; have := hnew c h6; omega
    · exact I.inj b1 b2 bk1 bk2 l1 l2 c g1 g3 g2 g4 h5 h6
  · obtain ⟨b1, bk1, l1, h1, h2, h3, h4⟩ := h
    rcases hget h1 h2 with ⟨_, rfl, rfl⟩ | ⟨g1, g2⟩
    · exact .inr ⟨hnew c h3, I2.cov c o ⟨b, blk, _, blkOf_some hb, hl, h3, h4⟩⟩
    · exact .inl (I.cov c o ⟨b1, bk1, l1, g1, g2, h3, h4⟩)
  · rcases h with h | h
    · exact Nat.lt_of_lt_of_le (I.lim c o h) E.size
    · exact I2.lim c o h.2
  · refine ⟨E.size, E.os, E.tape, E.output, fun c o hc _ => cell_of_heap (hobj c hc), fun c hc _ => hobj c hc, fun c hc => shape_of_heap (hobj c hc), M.rho, fun c o h => ?_, fun c o h => h.imp id fun h => h.1, fun c o h => .inl (.inl h)⟩
    obtain ⟨b1, bk1, l1, h1, h2, h3, h4⟩ := h
    rcases hget h1 h2 with ⟨_, rfl, rfl⟩ | ⟨g1, g2⟩
    · exact .inr (hnew c h3)
    · exact .inl ⟨b1, bk1, l1, g1, g2, h3, h4⟩
theorem FnOwn.of {e : TypeId} {sz : Nat} {es : List (List D)} (h : AC P f [] xs fun r H' => ∃ b n full blk, r = .osl b 0 n full ∧ n = es.length ∧ blkOf H' b = some blk ∧ blk.elem = e ∧ blk.sz = sz ∧ blk.ro = 0 ∧ blk.es = es) (hp : pureL xs = true) (he : pureR es = true) : FnOwn P f xs e sz es := by
  refine ⟨h.1, fun H s vs nid I hvs hnew => ?_⟩
  obtain ⟨hnid, hfree⟩ := hnew rfl
  have I0 := bare_inv (s := s) (NI := s.NI) I.lim
  have M0 : PMono s (s.bare s.NI) := ⟨fun _ _ _ h _ => h, fun _ _ _ _ h => h⟩
  refine (h.2 (s.bare s.NI) vs I0 (RepL.pmono M0 _ _ hp hvs)).mono fun e' w ⟨v, r', H2, s2, h1, h2, ⟨b, n, full, blk, h3, h5, h6, h7, h8, h9, h10⟩, I2, E2, h4⟩ => ?_
  subst h1 h2 h3
  have h4' := h4
  simp only [Rep] at h4'
  obtain ⟨l, cap, hρ, q1, q2, q3⟩ := h4'
  have key := own_over (es := es) I I2 E2 hnid hfree h6 hρ (fun s3 hw hni => by
      have hbr := I2.rel b blk l (blkOf_some h6) hρ
      refine ⟨hbr.size, fun hn => by rw [← h10]; exact hbr.nil hn, fun c hc => ?_⟩
      obtain ⟨cs, hcs, hrow⟩ := hbr.row c hc
      refine ⟨cs, by rw [hw]; exact hcs, fun k cells hk => ?_⟩
      obtain ⟨p1, p2⟩ := hrow k cells (by rw [h10]; exact hk)
      refine ⟨p1, fun j d hj => ?_⟩
      obtain ⟨u, u1, u2, u3⟩ := p2 j d hj
      have hpd := pureL_mem (pureR_mem he cells (List.mem_of_getElem? hk)) d (List.mem_of_getElem? hj)
      refine ⟨u, u1, u2, Rep.pmono ⟨fun c o u h _ => by rw [hw]; exact h, fun c' o u hcell hn h => ?_⟩ d u hpd u3⟩
      rw [hni] at h
      rcases h with h | h
      · rcases E2.keep c' o h with h | h
        · exact hn h
        · exact absurd h no_wr
      · exact hn h.2)
  have e1 : newH H nid (some ⟨e, sz, es, 0⟩) = H.set nid (some ⟨blk.elem, blk.sz, es, blk.ro⟩) := by rw [h7, h8, h9]; rfl
  rw [e1]
  refine ⟨v, ⟨s2.w, fun n => if n = nid then some l else s.ρ n, fun c o => s.NI c o ∨ (s.w.heap.size ≤ c ∧ s2.NI c o)⟩, rfl, rfl, key.1, key.2, ?_, fun b hb => by simp [hb rfl]⟩
  simp only [Rep]
  rw [← h5]
  exact ⟨l, cap, by simp, q1, by simp, q3⟩
/-- The same, where code goes on step by step. -/
theorem FnOwn.ac {e : TypeId} {sz : Nat} {es : List (List D)} (h : FnOwn P f xs e sz es) (H : Heap) : AC P f H xs fun r' H' => r' = .osl H.length 0 es.length false ∧ H' = H ++ [some ⟨e, sz, es, 0⟩] := by
  refine ⟨h.1, fun s vs I hv => ?_⟩
  have hn : (H ++ [none])[H.length]? = some none := by simp
  refine (h.2 (H ++ [none]) s vs H.length (I.more [none]) hv fun _ => ⟨hn, rho_none I (Nat.le_refl _)⟩).mono fun _ _ ⟨v, s1, h1, h2, h3, h4, h5, _⟩ => ?_
  have e1 : newH (H ++ [none]) H.length (some ⟨e, sz, es, 0⟩) = H ++ [some ⟨e, sz, es, 0⟩] := by
    simp only [newH]
    rw [List.set_append_right _ _ (by simp)]
    simp
  rw [e1] at h3 h4
  exact ⟨v, _, _, s1, h1, h2, ⟨rfl, rfl⟩, h3, h4.of_more I, h5⟩
end
end Go.Proofs.Ytlagfebklcaaeaa

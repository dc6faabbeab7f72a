/- A value-level machine over the model, part 16: calls that see no block of the caller's; own slices lent to a reader; results taken over. -/
import Derived.Test.YtlagfebklcaaeaaA15
namespace Go.Proofs.Ytlagfebklcaaeaa
set_option linter.all false

mutual
/-- No reference to an own block. -/
def pureD : D → Bool
  | .ptr _ _ _ => false
  | .osl _ _ _ _ => false
  | .iptr c _ => pureL c
  | .sl _ _ es => pureR es
  | .fn _ a b => pureL a && pureL b
  | .iface _ d => pureD d
  | .agg c => pureL c
  | .tup c => pureL c
  | _ => true
def pureL : List D → Bool
  | [] => true
  | d :: ds => pureD d && pureL ds
def pureR : List (List D) → Bool
  | [] => true
  | e :: es => pureL e && pureR es
end
mutual
/-- No memory at all. -/
def flatD : D → Bool
  | .ptr _ _ _ => false
  | .osl _ _ _ _ => false
  | .iptr _ _ => false
  | .sl _ _ es => es.isEmpty
  | .fn _ a b => flatL a && flatL b
  | .iface _ d => flatD d
  | .agg c => flatL c
  | .tup c => flatL c
  | _ => true
def flatL : List D → Bool
  | [] => true
  | d :: ds => flatD d && flatL ds
end
theorem pureR_of {es : List (List D)} (h : ∀ e ∈ es, pureL e = true) : pureR es = true := by
  induction es with
  | nil => rfl
  | cons e es ih => simp only [pureR, Bool.and_eq_true]; exact ⟨h e (by simp), ih fun x hx => h x (by simp [hx])⟩
theorem pureR_mem {es : List (List D)} (h : pureR es = true) : ∀ e ∈ es, pureL e = true := by
  induction es with
  | nil => simp
  | cons e es ih =>
    simp only [pureR, Bool.and_eq_true] at h
    intro x hx
    rcases List.mem_cons.1 hx with rfl | hx
    · exact h.1
    · exact ih h.2 x hx
theorem pureL_of {es : List D} (h : ∀ e ∈ es, pureD e = true) : pureL es = true := by
  induction es with
  | nil => rfl
  | cons e es ih => simp only [pureL, Bool.and_eq_true]; exact ⟨h e (by simp), ih fun x hx => h x (by simp [hx])⟩
theorem pureL_mem {es : List D} (h : pureL es = true) : ∀ e ∈ es, pureD e = true := by
  induction es with
  | nil => simp
  | cons e es ih =>
    simp only [pureL, Bool.and_eq_true] at h
    intro x hx
    rcases List.mem_cons.1 hx with rfl | hx
    · exact h.1
    · exact ih h.2 x hx
structure PMono (s s1 : St) : Prop where
  cell : ∀ c o u, s.w.cell? ⟨c, o, none⟩ = some u → ¬ s.NI c o → s1.w.cell? ⟨c, o, none⟩ = some u
  ni : ∀ c o u, s.w.cell? ⟨c, o, none⟩ = some u → ¬ s.NI c o → ¬ s1.NI c o
mutual
theorem Rep.pmono {s s1 : St} (E : PMono s s1) : ∀ (d : D) (v : Value), pureD d = true → Rep s d v → Rep s1 d v
  | .bool _, _, _, h => by simpa only [Rep] using h
  | .int _ _, _, _, h => by simpa only [Rep] using h
  | .str _, _, _, h => by simpa only [Rep] using h
  | .nilptr, _, _, h => by simpa only [Rep] using h
  | .ptr _ _ _, _, p, _ => by cases p
  | .iptr c j, v, p, h => by
    simp only [Rep] at h ⊢
    obtain ⟨g, o, h1, h2⟩ := h
    exact ⟨g, o, h1, RepC.pmono E g o c p h2⟩
  | .sl sz full es, v, p, h => by
    simp only [Rep] at h ⊢
    obtain ⟨a, cap, h1, h2, h3, h4⟩ := h
    refine ⟨a, cap, h1, h2, h3, ?_⟩
    rcases h4 with h4 | ⟨g, o, h4, h5⟩
    · exact .inl h4
    · exact .inr ⟨g, o, h4, RepR.pmono E g o sz es p h5⟩
  | .osl _ _ _ _, _, p, _ => by cases p
  | .fn f first cap, v, p, h => by
    simp only [pureD, Bool.and_eq_true] at p
    simp only [Rep] at h ⊢
    obtain ⟨fs, cs, h1, h2, h3⟩ := h
    exact ⟨fs, cs, h1, RepL.pmono E first _ p.1 h2, RepL.pmono E cap _ p.2 h3⟩
  | .nilfn, _, _, h => by simpa only [Rep] using h
  | .iface t d, v, p, h => by
    simp only [Rep] at h ⊢
    obtain ⟨u, h1, h2⟩ := h
    exact ⟨u, h1, Rep.pmono E d u p h2⟩
  | .nilif, _, _, h => by simpa only [Rep] using h
  | .agg c, v, p, h => by
    simp only [Rep] at h ⊢
    obtain ⟨vs, h1, h0, h2⟩ := h
    exact ⟨vs, h1, h0, RepL.pmono E c _ p h2⟩
  | .tup c, v, p, h => by
    simp only [Rep] at h ⊢
    obtain ⟨vs, h1, h2⟩ := h
    exact ⟨vs, h1, RepL.pmono E c _ p h2⟩
theorem RepL.pmono {s s1 : St} (E : PMono s s1) : ∀ (ds : List D) (vs : List Value), pureL ds = true → RepL s ds vs → RepL s1 ds vs
  | [], vs, _, h => by simpa only [RepL] using h
  | d :: ds, vs, p, h => by
    simp only [pureL, Bool.and_eq_true] at p
    simp only [RepL] at h ⊢
    obtain ⟨v, rest, h1, h2, h3⟩ := h
    exact ⟨v, rest, h1, Rep.pmono E d v p.1 h2, RepL.pmono E ds rest p.2 h3⟩
theorem RepC.pmono {s s1 : St} (E : PMono s s1) (g : Nat) : ∀ (o : Nat) (c : List D), pureL c = true → RepC s g o c → RepC s1 g o c
  | _, [], _, _ => by simp only [RepC]
  | o, d :: ds, p, h => by
    simp only [pureL, Bool.and_eq_true] at p
    simp only [RepC] at h ⊢
    obtain ⟨⟨u, h1, h2, h5, h3⟩, h4⟩ := h
    exact ⟨⟨u, E.cell _ _ _ h1 h2, E.ni _ _ _ h1 h2, h5, Rep.pmono E d u p.1 h3⟩, RepC.pmono E g (o + 1) ds p.2 h4⟩
theorem RepR.pmono {s s1 : St} (E : PMono s s1) (g : Nat) : ∀ (o sz : Nat) (es : List (List D)), pureR es = true → RepR s g o sz es → RepR s1 g o sz es
  | _, _, [], _, _ => by simp only [RepR]
  | o, sz, e :: es, p, h => by
    simp only [pureR, Bool.and_eq_true] at p
    simp only [RepR] at h ⊢
    exact ⟨h.1, RepC.pmono E g o e p.1 h.2.1, RepR.pmono E g (o + sz) sz es p.2 h.2.2⟩
end
mutual
theorem Rep.flat {s s1 : St} : ∀ (d : D) (v : Value), flatD d = true → Rep s d v → Rep s1 d v
  | .bool _, _, _, h => by simpa only [Rep] using h
  | .int _ _, _, _, h => by simpa only [Rep] using h
  | .str _, _, _, h => by simpa only [Rep] using h
  | .nilptr, _, _, h => by simpa only [Rep] using h
  | .ptr _ _ _, _, p, _ => by cases p
  | .iptr _ _, _, p, _ => by cases p
  | .sl sz full es, v, p, h => by
    have : es = [] := by simpa [flatD] using p
    subst this
    simp only [Rep] at h ⊢
    obtain ⟨a, cap, h1, h2, h3, _⟩ := h
    exact ⟨a, cap, h1, h2, h3, .inl trivial⟩
  | .osl _ _ _ _, _, p, _ => by cases p
  | .fn f first cap, v, p, h => by
    simp only [flatD, Bool.and_eq_true] at p
    simp only [Rep] at h ⊢
    obtain ⟨fs, cs, h1, h2, h3⟩ := h
    exact ⟨fs, cs, h1, RepL.flat first _ p.1 h2, RepL.flat cap _ p.2 h3⟩
  | .nilfn, _, _, h => by simpa only [Rep] using h
  | .iface t d, v, p, h => by
    simp only [Rep] at h ⊢
    obtain ⟨u, h1, h2⟩ := h
    exact ⟨u, h1, Rep.flat d u p h2⟩
  | .nilif, _, _, h => by simpa only [Rep] using h
  | .agg c, v, p, h => by
    simp only [Rep] at h ⊢
    obtain ⟨vs, h1, h0, h2⟩ := h
    exact ⟨vs, h1, h0, RepL.flat c _ p h2⟩
  | .tup c, v, p, h => by
    simp only [Rep] at h ⊢
    obtain ⟨vs, h1, h2⟩ := h
    exact ⟨vs, h1, RepL.flat c _ p h2⟩
theorem RepL.flat {s s1 : St} : ∀ (ds : List D) (vs : List Value), flatL ds = true → RepL s ds vs → RepL s1 ds vs
  | [], vs, _, h => by simpa only [RepL] using h
  | d :: ds, vs, p, h => by
    simp only [flatL, Bool.and_eq_true] at p
    simp only [RepL] at h ⊢
    obtain ⟨v, rest, h1, h2, h3⟩ := h
    exact ⟨v, rest, h1, Rep.flat d v p.1 h2, RepL.flat ds rest p.2 h3⟩
end

/-! ### A datum with references to own blocks, read as one without -/
mutual
inductive Lend (H : Heap) : D → D → Prop
  | pure {d : D} (h : pureD d = true) : Lend H d d
  | osl {b o n : Nat} {f f' : Bool} {blk : Blk} {es : List (List D)} (hb : blkOf H b = some blk) (hn : o + n ≤ blk.es.length) (h : LendR H ((blk.es.drop o).take n) es) (hf : f' = true → f = true) : Lend H (.osl b o n f) (.sl blk.sz f' es)
  | slw {z z' : Nat} {f f' : Bool} {es : List (List D)} (h : pureR es = true) (hz : es = [] ∨ z = z') (hf : f' = true → f = true) : Lend H (.sl z f es) (.sl z' f' es)
  | ptr {b e j : Nat} {blk : Blk} {c c' : List D} (hb : blkOf H b = some blk) (hc : blk.es[e]? = some c) (h : LendL H c c') : Lend H (.ptr b e j) (.iptr c' j)
  | agg {c c' : List D} (h : LendL H c c') : Lend H (.agg c) (.agg c')
  | tup {c c' : List D} (h : LendL H c c') : Lend H (.tup c) (.tup c')
  | iface {t : TypeId} {d d' : D} (h : Lend H d d') : Lend H (.iface t d) (.iface t d')
  | fn {f : Fn} {a a' b b' : List D} (h : LendL H a a') (k : LendL H b b') : Lend H (.fn f a b) (.fn f a' b')
inductive LendL (H : Heap) : List D → List D → Prop
  | nil : LendL H [] []
  | cons {d d' : D} {ds ds' : List D} (h : Lend H d d') (k : LendL H ds ds') : LendL H (d :: ds) (d' :: ds')
inductive LendR (H : Heap) : List (List D) → List (List D) → Prop
  | pure {es : List (List D)} (h : pureR es = true) : LendR H es es
  | nil : LendR H [] []
  | cons {d d' : List D} {ds ds' : List (List D)} (h : LendL H d d') (k : LendR H ds ds') : LendR H (d :: ds) (d' :: ds')
end
theorem LendL.pure {H : Heap} : ∀ {ds : List D}, pureL ds = true → LendL H ds ds
  | [], _ => .nil
  | d :: ds, h => by
    simp only [pureL, Bool.and_eq_true] at h
    exact .cons (.pure h.1) (LendL.pure h.2)
section
variable {H : Heap} {s s1 : St}
/-- What a view needs of the state that it is read in. -/
structure View (H : Heap) (s s1 : St) : Prop where
  inv : Inv H s
  w : s1.w = s.w
  ni : ∀ c o, s1.NI c o → s.NI c o ∧ ∀ b blk l, blkOf H b = some blk → s.ρ b = some l → l.blk ≠ some c
theorem View.pmono (V : View H s s1) : PMono s s1 := ⟨fun c o u h _ => by rw [V.w]; exact h, fun c o u _ h h1 => h (V.ni c o h1).1⟩
mutual
theorem Lend.rep (V : View H s s1) : ∀ {d d' : D}, Lend H d d' → ∀ v, Rep s d v → Rep s1 d' v
  | _, _, .pure h, v, hr => Rep.pmono V.pmono _ v h hr
  | _, _, .slw (z := z) (z' := z') (f := f) (f' := f') (es := es) h hz hf, v, hr => by
    have hp : Rep s1 (.sl z f es) v := Rep.pmono V.pmono (.sl z f es) v (by simpa only [pureD] using h) hr
    simp only [Rep] at hp ⊢
    obtain ⟨a, cap, h1, h2, h3, h4⟩ := hp
    refine ⟨a, cap, h1, h2, fun h => h3 (hf h), ?_⟩
    rcases hz with rfl | rfl
    · exact .inl rfl
    · exact h4
  | _, _, .osl (b := b) (o := o) (n := n) (blk := blk) (es := es) hb hn h hf, v, hr => by
    simp only [Rep] at hr ⊢
    obtain ⟨l, cap, hρ, h1, h2', h3⟩ := hr
    have h2 := fun h => h2' (hf h)
    have hlen : es.length = n := by have := LendR.length V h; simp at this; omega
    rcases h3 with ⟨rfl, rfl, a, rfl⟩ | ⟨g, el, N, hg, rfl, _, _⟩
    · exact ⟨a, 0, by rw [hlen], by omega, by omega, .inl (List.eq_nil_of_length_eq_zero hlen)⟩
    · refine ⟨_, cap, by rw [hlen], by omega, by rw [hlen]; exact h2, .inr ⟨g, l.off + o * l.sz, rfl, ?_⟩⟩
      have hbr := V.inv.rel b blk l (blkOf_some hb) hρ
      obtain ⟨cs, hcs, hrow⟩ := hbr.row g hg
      rw [← hbr.size]
      refine LendR.rep V h g _ l.sz (fun c o' hc => by rw [← hg]; exact (V.ni c o' hc).2 b blk l hb hρ) rfl fun i e he => ?_
      rw [List.getElem?_take] at he
      split at he
      · rw [List.getElem?_drop] at he
        obtain ⟨q1, q2⟩ := hrow _ _ he
        refine ⟨q1, fun j d hj => ?_⟩
        obtain ⟨u, hu, h5, h6⟩ := q2 j d hj
        refine ⟨u, ?_, h5, h6⟩
        rw [cell_of_row _ _ _ _ _ _ hcs, show l.off + o * l.sz + i * l.sz + j = l.off + (o + i) * l.sz + j from by rw [Nat.add_mul]; omega]
        exact hu
      · cases he
  | _, _, .ptr (b := b) (e := e) (j := j) (blk := blk) (c := c) hb hc h, v, hr => by
    simp only [Rep] at hr ⊢
    obtain ⟨l, g, hρ, hg, rfl⟩ := hr
    refine ⟨g, l.off + e * l.sz, rfl, ?_⟩
    have hbr := V.inv.rel b blk l (blkOf_some hb) hρ
    obtain ⟨cs, hcs, hrow⟩ := hbr.row g hg
    refine LendL.repC V h g _ (fun c o' hc => by rw [← hg]; exact (V.ni c o' hc).2 b blk l hb hρ) rfl fun j d hj => ?_
    obtain ⟨u, hu, h5, h6⟩ := (hrow e c hc).2 j d hj
    exact ⟨u, by rw [cell_of_row _ _ _ _ _ _ hcs]; exact hu, h5, h6⟩
  | _, _, .agg h, v, hr => by
    simp only [Rep] at hr ⊢
    obtain ⟨vs, h1, h0, h2⟩ := hr
    exact ⟨vs, h1, h0, LendL.rep V h _ h2⟩
  | _, _, .tup h, v, hr => by
    simp only [Rep] at hr ⊢
    obtain ⟨vs, h1, h2⟩ := hr
    exact ⟨vs, h1, LendL.rep V h _ h2⟩
  | _, _, .iface h, v, hr => by
    simp only [Rep] at hr ⊢
    obtain ⟨u, h1, h2⟩ := hr
    exact ⟨u, h1, Lend.rep V h _ h2⟩
  | _, _, .fn h k, v, hr => by
    simp only [Rep] at hr ⊢
    obtain ⟨fs, cs, h1, h2, h3⟩ := hr
    exact ⟨fs, cs, h1, LendL.rep V h _ h2, LendL.rep V k _ h3⟩
theorem LendL.rep (V : View H s s1) : ∀ {ds ds' : List D}, LendL H ds ds' → ∀ vs, RepL s ds vs → RepL s1 ds' vs
  | _, _, .nil, vs, hr => by simpa only [RepL] using hr
  | _, _, .cons h k, vs, hr => by
    simp only [RepL] at hr ⊢
    obtain ⟨v, rest, h1, h2, h3⟩ := hr
    exact ⟨v, rest, h1, Lend.rep V h _ h2, LendL.rep V k _ h3⟩
theorem LendL.repC (V : View H s s1) : ∀ {ds ds' : List D}, LendL H ds ds' → ∀ (g o : Nat), (∀ c o', s1.NI c o' → some g ≠ some c) → (some g = some g) →
    (∀ (j : Nat) (d : D), ds[j]? = some d → ∃ u, s.w.cell? ⟨g, o + j, none⟩ = some u ∧ u.oneCell' = true ∧ Rep s d u) → RepC s1 g o ds'
  | _, _, .nil, g, o, _, _, _ => by simp only [RepC]
  | _, _, .cons h k, g, o, hn, hg, hc => by
    simp only [RepC]
    obtain ⟨u, h1, h2, h3⟩ := hc 0 _ rfl
    refine ⟨⟨u, by rw [V.w]; exact h1, fun hh => hn g o hh rfl, h2, Lend.rep V h _ h3⟩, LendL.repC V k g (o + 1) hn hg fun j d hj => ?_⟩
    have := hc (j + 1) d (by simpa using hj)
    rwa [show o + (j + 1) = o + 1 + j from by omega] at this
theorem LendR.length (V : View H s s1) : ∀ {ds ds' : List (List D)}, LendR H ds ds' → ds'.length = ds.length
  | _, _, .pure _ => rfl
  | _, _, .nil => rfl
  | _, _, .cons _ k => by simp [LendR.length V k]
theorem LendL.length (V : View H s s1) : ∀ {ds ds' : List D}, LendL H ds ds' → ds'.length = ds.length
  | _, _, .nil => rfl
  | _, _, .cons _ k => by simp [LendL.length V k]
theorem LendR.rep (V : View H s s1) : ∀ {ds ds' : List (List D)}, LendR H ds ds' → ∀ (g o sz : Nat), (∀ c o', s1.NI c o' → some g ≠ some c) → (some g = some g) →
    (∀ (i : Nat) (e : List D), ds[i]? = some e → e.length = sz ∧ ∀ (j : Nat) (d : D), e[j]? = some d → ∃ u, s.w.cell? ⟨g, o + i * sz + j, none⟩ = some u ∧ u.oneCell' = true ∧ Rep s d u) → RepR s1 g o sz ds'
  | _, _, .pure (es := es) h, g, o, sz, hn, hg, hc => RepR_of fun i e he => by
    obtain ⟨q1, q2⟩ := hc i e he
    refine ⟨q1, RepC_of fun j d hj => ?_⟩
    obtain ⟨u, u1, u2, u3⟩ := q2 j d hj
    have hp := pureL_mem (pureR_mem h e (List.mem_of_getElem? he)) d (List.mem_of_getElem? hj)
    exact ⟨u, by rw [V.w]; exact u1, fun hh => hn g _ hh rfl, u2, Rep.pmono V.pmono d u hp u3⟩
  | _, _, .nil, g, o, sz, _, _, _ => by simp only [RepR]
  | _, _, .cons h k, g, o, sz, hn, hg, hc => by
    simp only [RepR]
    obtain ⟨q1, q2⟩ := hc 0 _ rfl
    simp only [Nat.zero_mul, Nat.add_zero] at q2
    refine ⟨by rw [LendL.length V h]; exact q1, LendL.repC V h g o hn hg q2, LendR.rep V k g (o + sz) sz hn hg fun i e he => ?_⟩
    have := hc (i + 1) e (by simpa using he)
    rwa [show o + (i + 1) * sz = o + sz + i * sz from by rw [Nat.add_mul]; omega] at this
end
end
end Go.Proofs.Ytlagfebklcaaeaa

/- A value-level machine over the model, part 1: data without memory, how it is represented in a world, and that a step which writes only to what is owned keeps all representations. -/
import Derived.Orders
import Derived.RowKit3
import Derived.Laws.AppendOwn
import Derived.KernelRfl
namespace Go.Proofs.Ytlagfebklcaaeaa
set_option linter.all false

/-- Data. `sl` an immutable slice (its elements, each a list of cells), `osl b o n` a slice of the own block b, `ptr b e j` cell j of element e of the own block b, `iptr c j` a pointer into immutable cells. -/
inductive D where
  | bool (b : Bool)
  | int (k : IntKind) (n : Int)
  | str (s : ByteArray)
  | nilptr
  | ptr (b e j : Nat)
  | iptr (c : List D) (j : Nat)
  | sl (sz : Nat) (full : Bool) (es : List (List D))
  | osl (b o n : Nat) (full : Bool)
  | fn (f : Fn) (first cap : List D)
  | nilfn
  | iface (t : TypeId) (v : D)
  | nilif
  | agg (c : List D)
  | tup (c : List D)
  deriving Inhabited

/-- Where an own block lies: the block of the heap (none: a nil slice), the offset of element 0, the cells of an element. -/
structure Loc where
  blk : Option Nat
  off : Nat
  sz : Nat

structure St where
  w : World
  ρ : Nat → Option Loc
  NI : Nat → Nat → Prop

mutual
def Rep (s : St) : D → Value → Prop
  | .bool b, v => v = .bool b
  | .int k n, v => v = .int k n
  | .str x, v => v = .string x
  | .nilptr, v => v = .pointer none
  | .ptr b e j, v => ∃ l c, s.ρ b = some l ∧ l.blk = some c ∧ v = .pointer (some ⟨c, l.off + e * l.sz + j, none⟩)
  | .iptr c j, v => ∃ g o, v = .pointer (some ⟨g, o + j, none⟩) ∧ RepC s g o c
  | .sl sz full es, v => ∃ a cap, v = .slice a es.length cap ∧ es.length ≤ cap ∧ (full = true → cap = es.length) ∧ (es = [] ∨ ∃ g o, a = some ⟨g, o, none⟩ ∧ RepR s g o sz es)
  | .osl b o n full, v => ∃ l cap, s.ρ b = some l ∧ n ≤ cap ∧ (full = true → cap = n) ∧
      ((n = 0 ∧ cap = 0 ∧ ∃ a, v = .slice a 0 0) ∨ ∃ g elem N, l.blk = some g ∧ v = .slice (some ⟨g, l.off + o * l.sz, none⟩) n cap ∧ s.w.shape? g = some (elem, N) ∧ l.off + (o + cap) * l.sz ≤ N)
  | .fn f first cap, v => ∃ fs cs, v = .func f fs cs ∧ RepL s first fs.toList ∧ RepL s cap cs.toList
  | .nilfn, v => v = .nilFunc
  | .iface t d, v => ∃ u, v = .iface t u ∧ Rep s d u
  | .nilif, v => v = .nilIface
  | .agg c, v => ∃ vs, v = .agg vs ∧ (∀ u ∈ vs.toList, u.oneCell' = true) ∧ RepL s c vs.toList
  | .tup c, v => ∃ vs, v = .tuple vs ∧ RepL s c vs.toList
def RepL (s : St) : List D → List Value → Prop
  | [], vs => vs = []
  | d :: ds, vs => ∃ v rest, vs = v :: rest ∧ Rep s d v ∧ RepL s ds rest
def RepC (s : St) (g : Nat) : Nat → List D → Prop
  | _, [] => True
  | o, d :: ds => (∃ u, s.w.cell? ⟨g, o, none⟩ = some u ∧ ¬ s.NI g o ∧ u.oneCell' = true ∧ Rep s d u) ∧ RepC s g (o + 1) ds
def RepR (s : St) (g : Nat) : Nat → Nat → List (List D) → Prop
  | _, _, [] => True
  | o, sz, e :: es => e.length = sz ∧ RepC s g o e ∧ RepR s g (o + sz) sz es
end

/-! ### Reading cells -/
theorem RepC_at {s : St} {g : Nat} : ∀ {c : List D} {o j : Nat} {d : D}, RepC s g o c → c[j]? = some d → ∃ u, s.w.cell? ⟨g, o + j, none⟩ = some u ∧ ¬ s.NI g (o + j) ∧ u.oneCell' = true ∧ Rep s d u
  | [], _, _, _, _, h => by simp at h
  | d0 :: ds, o, 0, d, hc, h => by
    simp only [RepC] at hc
    simp at h
    subst h
    simpa using hc.1
  | d0 :: ds, o, j + 1, d, hc, h => by
    simp only [RepC] at hc
    have := RepC_at (j := j) hc.2 (by simpa using h)
    rwa [show o + (j + 1) = o + 1 + j from by omega]
theorem RepC_of {s : St} {g : Nat} : ∀ {c : List D} {o : Nat}, (∀ j d, c[j]? = some d → ∃ u, s.w.cell? ⟨g, o + j, none⟩ = some u ∧ ¬ s.NI g (o + j) ∧ u.oneCell' = true ∧ Rep s d u) → RepC s g o c
  | [], _, _ => by simp [RepC]
  | d0 :: ds, o, h => by
    simp only [RepC]
    refine ⟨by simpa using h 0 d0 rfl, RepC_of fun (j : Nat) (d : D) hj => ?_⟩
    have := h (j + 1) d (by simpa using hj)
    rwa [show o + (j + 1) = o + 1 + j from by omega] at this
theorem RepR_at {s : St} {g : Nat} : ∀ {es : List (List D)} {o sz i : Nat} {e : List D}, RepR s g o sz es → es[i]? = some e → e.length = sz ∧ RepC s g (o + i * sz) e
  | [], _, _, _, _, _, h => by simp at h
  | e0 :: es, o, sz, 0, e, hc, h => by
    simp only [RepR] at hc
    simp at h
    subst h
    simpa using ⟨hc.1, hc.2.1⟩
  | e0 :: es, o, sz, i + 1, e, hc, h => by
    simp only [RepR] at hc
    have := RepR_at (i := i) hc.2.2 (by simpa using h)
    rwa [show o + (i + 1) * sz = o + sz + i * sz from by rw [Nat.add_mul]; omega]
theorem RepR_of {s : St} {g : Nat} : ∀ {es : List (List D)} {o sz : Nat}, (∀ i e, es[i]? = some e → e.length = sz ∧ RepC s g (o + i * sz) e) → RepR s g o sz es
  | [], _, _, _ => by simp [RepR]
  | e0 :: es, o, sz, h => by
    simp only [RepR]
    have h0 := h 0 e0 rfl
    simp only [Nat.zero_mul, Nat.add_zero] at h0
    refine ⟨h0.1, h0.2, RepR_of fun (i : Nat) (e : List D) hi => ?_⟩
    have := h (i + 1) e (by simpa using hi)
    rwa [show o + (i + 1) * sz = o + sz + i * sz from by rw [Nat.add_mul]; omega] at this
theorem RepL_at {s : St} : ∀ {ds : List D} {vs : List Value} {i : Nat} {d : D}, RepL s ds vs → ds[i]? = some d → ∃ v, vs[i]? = some v ∧ Rep s d v
  | [], _, _, _, _, h => by simp at h
  | d0 :: ds, vs, i, d, hr, h => by
    simp only [RepL] at hr
    obtain ⟨v, rest, rfl, h0, hr⟩ := hr
    cases i with
    | zero => simp at h; subst h; exact ⟨v, rfl, h0⟩
    | succ i => simpa using RepL_at (i := i) hr (by simpa using h)
theorem RepL_length {s : St} : ∀ {ds : List D} {vs : List Value}, RepL s ds vs → vs.length = ds.length
  | [], vs, h => by simp only [RepL] at h; subst h; rfl
  | d0 :: ds, vs, hr => by
    simp only [RepL] at hr
    obtain ⟨v, rest, rfl, h0, hr⟩ := hr
    simp [RepL_length hr]
theorem RepL_of {s : St} : ∀ {ds : List D} {vs : List Value}, vs.length = ds.length → (∀ (i : Nat) (d : D) (v : Value), ds[i]? = some d → vs[i]? = some v → Rep s d v) → RepL s ds vs
  | [], vs, h, _ => by simp only [RepL]; exact List.eq_nil_of_length_eq_zero (by simpa using h)
  | d0 :: ds, vs, h, hr => by
    simp only [RepL]
    match vs, h with
    | v :: rest, h => exact ⟨v, rest, rfl, hr 0 d0 v rfl rfl, RepL_of (by simpa using h) fun (i : Nat) (d : D) (u : Value) hd hu => hr (i + 1) d u (by simpa using hd) (by simpa using hu)⟩
theorem RepL_append {s : St} {ds es : List D} {vs us : List Value} (h : RepL s ds vs) (k : RepL s es us) : RepL s (ds ++ es) (vs ++ us) := by
  induction ds generalizing vs with
  | nil => simp only [RepL] at h; subst h; simpa using k
  | cons d ds ih =>
    simp only [RepL] at h
    obtain ⟨v, rest, rfl, h0, hr⟩ := h
    simp only [List.cons_append, RepL]
    exact ⟨v, rest ++ us, rfl, h0, ih hr⟩

/-! ### What keeps a representation -/
structure Mono (s s1 : St) : Prop where
  cell : ∀ c o u, s.w.cell? ⟨c, o, none⟩ = some u → ¬ s.NI c o → s1.w.cell? ⟨c, o, none⟩ = some u
  ni : ∀ c o u, s.w.cell? ⟨c, o, none⟩ = some u → ¬ s.NI c o → ¬ s1.NI c o
  rho : ∀ b l, s.ρ b = some l → s1.ρ b = some l
  shape : ∀ c x, s.w.shape? c = some x → s1.w.shape? c = some x
mutual
theorem Rep.mono {s s1 : St} (E : Mono s s1) : ∀ (d : D) (v : Value), Rep s d v → Rep s1 d v
  | .bool _, _, h => by simpa only [Rep] using h
  | .int _ _, _, h => by simpa only [Rep] using h
  | .str _, _, h => by simpa only [Rep] using h
  | .nilptr, _, h => by simpa only [Rep] using h
  | .ptr b e j, v, h => by
    simp only [Rep] at h ⊢
    obtain ⟨l, c, h1, h2, h3⟩ := h
    exact ⟨l, c, E.rho _ _ h1, h2, h3⟩
  | .iptr c j, v, h => by
    simp only [Rep] at h ⊢
    obtain ⟨g, o, h1, h2⟩ := h
    exact ⟨g, o, h1, RepC.mono E g o c h2⟩
  | .sl sz full es, v, h => by
    simp only [Rep] at h ⊢
    obtain ⟨a, cap, h1, h2, h3, h4⟩ := h
    refine ⟨a, cap, h1, h2, h3, ?_⟩
    rcases h4 with h4 | ⟨g, o, h4, h5⟩
    · exact .inl h4
    · exact .inr ⟨g, o, h4, RepR.mono E g o sz es h5⟩
  | .osl b o n full, v, h => by
    simp only [Rep] at h ⊢
    obtain ⟨l, cap, h1, h2, h3, h4⟩ := h
    refine ⟨l, cap, E.rho _ _ h1, h2, h3, ?_⟩
    rcases h4 with h4 | ⟨g, elem, N, h4, h5, h6, h7⟩
    · exact .inl h4
    · exact .inr ⟨g, elem, N, h4, h5, E.shape _ _ h6, h7⟩
  | .fn f first cap, v, h => by
    simp only [Rep] at h ⊢
    obtain ⟨fs, cs, h1, h2, h3⟩ := h
    exact ⟨fs, cs, h1, RepL.mono E first _ h2, RepL.mono E cap _ h3⟩
  | .nilfn, _, h => by simpa only [Rep] using h
  | .iface t d, v, h => by
    simp only [Rep] at h ⊢
    obtain ⟨u, h1, h2⟩ := h
    exact ⟨u, h1, Rep.mono E d u h2⟩
  | .nilif, _, h => by simpa only [Rep] using h
  | .agg c, v, h => by
    simp only [Rep] at h ⊢
    obtain ⟨vs, h1, h0, h2⟩ := h
    exact ⟨vs, h1, h0, RepL.mono E c _ h2⟩
  | .tup c, v, h => by
    simp only [Rep] at h ⊢
    obtain ⟨vs, h1, h2⟩ := h
    exact ⟨vs, h1, RepL.mono E c _ h2⟩
theorem RepL.mono {s s1 : St} (E : Mono s s1) : ∀ (ds : List D) (vs : List Value), RepL s ds vs → RepL s1 ds vs
  | [], vs, h => by simpa only [RepL] using h
  | d :: ds, vs, h => by
    simp only [RepL] at h ⊢
    obtain ⟨v, rest, h1, h2, h3⟩ := h
    exact ⟨v, rest, h1, Rep.mono E d v h2, RepL.mono E ds rest h3⟩
theorem RepC.mono {s s1 : St} (E : Mono s s1) (g : Nat) : ∀ (o : Nat) (c : List D), RepC s g o c → RepC s1 g o c
  | _, [], _ => by simp only [RepC]
  | o, d :: ds, h => by
    simp only [RepC] at h ⊢
    obtain ⟨⟨u, h1, h2, h5, h3⟩, h4⟩ := h
    exact ⟨⟨u, E.cell _ _ _ h1 h2, E.ni _ _ _ h1 h2, h5, Rep.mono E d u h3⟩, RepC.mono E g (o + 1) ds h4⟩
theorem RepR.mono {s s1 : St} (E : Mono s s1) (g : Nat) : ∀ (o sz : Nat) (es : List (List D)), RepR s g o sz es → RepR s1 g o sz es
  | _, _, [], _ => by simp only [RepR]
  | o, sz, e :: es, h => by
    simp only [RepR] at h ⊢
    exact ⟨h.1, RepC.mono E g o e h.2.1, RepR.mono E g (o + sz) sz es h.2.2⟩
end

/-! ### The abstract heap -/
structure Blk where
  elem : TypeId
  sz : Nat
  es : List (List D)
  ro : Nat
  deriving Inhabited
abbrev Heap := List (Option Blk)

/-- The cells that may be written. -/
def Wr (H : Heap) (ρ : Nat → Option Loc) (c o : Nat) : Prop :=
  ∃ b blk l, H[b]? = some (some blk) ∧ ρ b = some l ∧ l.blk = some c ∧ l.off + blk.ro * l.sz ≤ o
structure BRel (s : St) (blk : Blk) (l : Loc) : Prop where
  size : l.sz = blk.sz
  nil : l.blk = none → blk.es = []
  row : ∀ c, l.blk = some c → ∃ cs, s.w.heap[c]? = some (.cells cs blk.elem (0, 0)) ∧
    ∀ e cells, blk.es[e]? = some cells → cells.length = l.sz ∧ ∀ j d, cells[j]? = some d → ∃ u, cs[l.off + e * l.sz + j]? = some u ∧ u.oneCell' = true ∧ Rep s d u
structure Inv (H : Heap) (s : St) : Prop where
  dom : ∀ b l, s.ρ b = some l → b < H.length
  rel : ∀ b blk l, H[b]? = some (some blk) → s.ρ b = some l → BRel s blk l
  inj : ∀ b b' blk blk' l l' c, H[b]? = some (some blk) → H[b']? = some (some blk') → s.ρ b = some l → s.ρ b' = some l' → l.blk = some c → l'.blk = some c → b = b'
  cov : ∀ c o, Wr H s.ρ c o → s.NI c o
  lim : ∀ c o, s.NI c o → c < s.w.heap.size
structure Ext (H : Heap) (s : St) (H1 : Heap) (s1 : St) : Prop where
  size : s.w.heap.size ≤ s1.w.heap.size
  os : s1.w.os = s.w.os
  tape : s1.w.tape = s.w.tape
  output : s1.w.output = s.w.output
  cell : ∀ c o, c < s.w.heap.size → ¬ Wr H s.ρ c o → s1.w.cell? ⟨c, o, none⟩ = s.w.cell? ⟨c, o, none⟩
  obj : ∀ c, c < s.w.heap.size → (∀ o, ¬ Wr H s.ρ c o) → s1.w.heap[c]? = s.w.heap[c]?
  shape : ∀ c, c < s.w.heap.size → s1.w.shape? c = s.w.shape? c
  rho : ∀ b l, s.ρ b = some l → s1.ρ b = some l
  wr : ∀ c o, Wr H1 s1.ρ c o → Wr H s.ρ c o ∨ s.w.heap.size ≤ c
  ni : ∀ c o, s1.NI c o → s.NI c o ∨ s.w.heap.size ≤ c
  keep : ∀ c o, s.NI c o → s1.NI c o ∨ Wr H s.ρ c o
theorem cell_lt {w : World} {c o : Nat} {u : Value} (h : w.cell? ⟨c, o, none⟩ = some u) : c < w.heap.size := World.block_lt_of_cell? w ⟨c, o, none⟩ h
theorem shape_lt {w : World} {c : Nat} {x : TypeId × Nat} (h : w.shape? c = some x) : c < w.heap.size := by
  unfold World.shape? at h
  split at h
  · rename_i hc; exact (Array.getElem?_eq_some_iff.1 hc).1
  · cases h
theorem Ext.mono {H H1 : Heap} {s s1 : St} (E : Ext H s H1 s1) (I : Inv H s) : Mono s s1 where
  cell c o u h hn := by rw [E.cell c o (cell_lt h) fun hw => hn (I.cov _ _ hw)]; exact h
  ni c o u h hn h1 := by rcases E.ni c o h1 with h2 | h2; exact hn h2; have := cell_lt h; omega
  rho := E.rho
  shape c x h := by rw [E.shape c (shape_lt h)]; exact h
theorem Ext.refl {H : Heap} {s : St} : Ext H s H s :=
  ⟨Nat.le_refl _, rfl, rfl, rfl, fun _ _ _ _ => rfl, fun _ _ _ => rfl, fun _ _ => rfl, fun _ _ h => h, fun _ _ h => .inl h, fun _ _ h => .inl h, fun _ _ h => .inl h⟩
theorem Ext.trans {H H1 H2 : Heap} {s s1 s2 : St} (I : Inv H s) (E : Ext H s H1 s1) (F : Ext H1 s1 H2 s2) : Ext H s H2 s2 where
  size := Nat.le_trans E.size F.size
  os := F.os.trans E.os
  tape := F.tape.trans E.tape
  output := F.output.trans E.output
  cell c o hc hw := by
    rw [F.cell c o (Nat.lt_of_lt_of_le hc E.size) fun h => ?_, E.cell c o hc hw]
    rcases E.wr _ _ h with h | h
    · exact hw h
    · omega
  obj c hc hw := by
    rw [F.obj c (Nat.lt_of_lt_of_le hc E.size) fun o h => ?_, E.obj c hc hw]
    rcases E.wr _ _ h with h | h
    · exact hw o h
    · omega
  shape c hc := by rw [F.shape c (Nat.lt_of_lt_of_le hc E.size), E.shape c hc]
  rho b l h := F.rho b l (E.rho b l h)
  wr c o h := by
    rcases F.wr _ _ h with h | h
    · exact E.wr _ _ h
    · exact .inr (Nat.le_trans E.size h)
  ni c o h := by
    rcases F.ni _ _ h with h | h
    · exact E.ni _ _ h
    · exact .inr (Nat.le_trans E.size h)
  keep c o h := by
    rcases E.keep _ _ h with h1 | h1
    · rcases F.keep _ _ h1 with h2 | h2
      · exact .inl h2
      · rcases E.wr _ _ h2 with h3 | h3
        · exact .inr h3
        · have := I.lim _ _ h; omega
    · exact .inr h1
end Go.Proofs.Ytlagfebklcaaeaa

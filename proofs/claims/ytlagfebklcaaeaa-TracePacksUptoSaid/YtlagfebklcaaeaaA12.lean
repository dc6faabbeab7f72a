/- A value-level machine over the model, part 12: append and copy are sound. -/
import Derived.Test.YtlagfebklcaaeaaA11
namespace Go.Proofs.Ytlagfebklcaaeaa
set_option linter.all false
section
variable {P : Program} {Hf H : Heap} {s : St} {nid : Nat} {d : D} {nb : Option Blk} {T : Tm} {a : Act}

theorem kill_step (I : Inv H s) (b : Nat) : Inv (H.set b none) s ∧ Ext H s (H.set b none) s := by
  have hget : ∀ {b1 : Nat} {bk1 : Blk}, (H.set b none)[b1]? = some (some bk1) → H[b1]? = some (some bk1) := by
    intro b1 bk1 h
    rw [List.getElem?_set] at h
    split at h
    · split at h <;> cases h
    · exact h
  have hwr : ∀ {c o : Nat}, Wr (H.set b none) s.ρ c o → Wr H s.ρ c o := fun ⟨b1, bk1, l1, h1, h2⟩ => ⟨b1, bk1, l1, hget h1, h2⟩
  refine ⟨I.less (fun b1 l1 h => by simpa using I.dom b1 l1 h) fun b1 bk1 h _ => hget h, ?_⟩
  exact ⟨Nat.le_refl _, rfl, rfl, rfl, fun _ _ _ _ => rfl, fun _ _ _ => rfl, fun _ _ => rfl, fun _ _ h => h, fun _ _ h => .inl (hwr h), fun _ _ h => .inl h, fun _ _ h => .inl h⟩

theorem first_run {w : World} {a : Option Addr} {m cap size : Nat} {vs : List Value} (hl : vs.length = m * size) (h : m = 0 ∨ ∃ g o, a = some ⟨g, o, none⟩ ∧ ∀ (j : Nat) (u : Value), vs[j]? = some u → w.cell? ⟨g, o + j, none⟩ = some u) :
    (Builtin.firstCells size m (.slice a m cap)).run P w = .ok vs.toArray w := by
  rcases h with rfl | ⟨g, o, rfl, h⟩
  · have : vs = [] := List.eq_nil_of_length_eq_zero (by omega)
    subst this
    cases a <;> simp [Builtin.firstCells, loadCells, loadCellsFrom]
  · exact run_firstCells_some w size m ⟨g, o, none⟩ m cap vs hl fun j u hj => by rw [add_none]; exact h j u hj
theorem append_place {w : World} {t u e : TypeId} {i : TypeInfo} (ht : sliceT P t = some e) (hu : sliceT P u = some e) (hi : P.info? e = some i) (ty : TypeId) {a a2 : Option Addr} {n cap m c2 : Nat} {vs : List Value}
    (hy : (Builtin.firstCells i.size m (.slice a2 m c2)).run P w = .ok vs.toArray w) (hle : n + m ≤ cap) :
    (Builtin.append_ #[t, u] ty #[.slice a n cap, .slice a2 m c2]).run P w = match a with
      | some ad => ((storeCells (ad.add (n * i.size)) vs).run P w).andThen fun _ w => .ok (.slice a (n + m) cap) w
      | none => .ok (.slice none (n + m) cap) w := by
  cases a <;> simp [Builtin.append_, run_underlying (sliceT_spec ht), run_underlying (sliceT_spec hu), sizeOf, typeInfo, hi, Builtin.lenOf, hle, hy]
theorem append_grow {w : World} {t u e : TypeId} {i : TypeInfo} {z : Value} (ht : sliceT P t = some e) (hu : sliceT P u = some e) (hi : P.info? e = some i) (hz : i.zero = some z) (ty : TypeId) {a a2 : Option Addr} {n cap m c2 : Nat} {olds vs : List Value}
    (hx : (Builtin.firstCells i.size n (.slice a n cap)).run P w.drew = .ok olds.toArray w.drew) (hy : (Builtin.firstCells i.size m (.slice a2 m c2)).run P w.drew = .ok vs.toArray w.drew) (hlt : cap < n + m)
    (h63 : n + m ≤ 9223372036854775807) (hb : (n + m) * i.bytes ≤ 140737488355328) :
    (Builtin.append_ #[t, u] ty #[.slice a n cap, .slice a2 m c2]).run P w =
      .ok (.slice (some ⟨w.heap.size, 0, none⟩) (n + m) (grownCap w (n + m) cap e)) (w.drew.alloc (.cells (olds.toArray ++ vs.toArray ++ Builtin.zeroCells z.cells (grownCap w (n + m) cap e - (n + m))) e)) := by
  have hn : ¬ (n + m ≤ cap) := by omega
  have h63' : ¬ (9223372036854775807 < ((n : Int) + (m : Int))) := by omega
  have hfit : Builtin.nextslicecap (n + m) cap * i.bytes ≤ 281474976710656 := by
    have h1 := nextslicecap_le hlt
    have h2 : Builtin.nextslicecap (n + m) cap * i.bytes ≤ 2 * (n + m) * i.bytes := Nat.mul_le_mul_right _ h1
    rw [Nat.mul_assoc] at h2
    omega
  have h48' : ¬ (281474976710656 < Builtin.nextslicecap (n + m) cap * i.bytes) := by omega
  simp [Builtin.append_, run_underlying (sliceT_spec ht), run_underlying (sliceT_spec hu), sizeOf, typeInfo, zeroValue, hi, hz, Builtin.lenOf, hn, h63', h48', Question.forced, hx, hy, newRow, grownCap]
  congr 2
  apply Array.ext'
  simp [List.append_assoc]

/-- A new block out of old and new elements. -/
theorem grow_step {H' : Heap} {s' : St} (I : Inv H' s') {nid : Nat} (hnid : H'[nid]? = some none) (hfree : s'.ρ nid = none) {e : TypeId} {sz ro : Nat} {es : List (List D)} {cs : Array Value} (hrow : RowIn s' cs 0 sz es) {n cap : Nat} (hn : n = es.length) (hcap : n ≤ cap) (hcs : cap * sz ≤ cs.size) :
    ∃ s1, s1.w = s'.w.alloc (.cells cs e) ∧ Inv (H'.set nid (some ⟨e, sz, es, ro⟩)) s1 ∧ Ext H' s' (H'.set nid (some ⟨e, sz, es, ro⟩)) s1 ∧ Rep s1 (.osl nid 0 n false) (.slice (some ⟨s'.w.heap.size, 0, none⟩) n cap) ∧ ∀ b, b ≠ nid → s1.ρ b = s'.ρ b := by
  have hb : (H'.set nid (some (⟨e, sz, es, ro⟩ : Blk)))[nid]? = some (some ⟨e, sz, es, ro⟩) := List.getElem?_set_self (List.getElem?_eq_some_iff.1 hnid).1
  have I' := I.place hfree (some (⟨e, sz, es, ro⟩ : Blk))
  refine ⟨s'.push nid sz cs e, rfl, push_inv I' hb hfree rfl hrow, (push_ext I' hfree e).of_place hfree hnid, ?_, fun b hb => by simp [St.push, hb]⟩
  simp only [Rep]
  refine ⟨⟨some s'.w.heap.size, 0, sz⟩, cap, by simp [St.push], hcap, by simp, .inr ⟨s'.w.heap.size, e, cs.size, rfl, by simp, ?_, by simpa using hcs⟩⟩
  show (s'.w.alloc _).shape? _ = _
  rw [shape_new]
theorem app_rep {t u e : TypeId} {i : TypeInfo} {x y : D} {v v2 : Value} (ty : TypeId) (I : Inv H s) (ht : sliceT P t = some e) (hu : sliceT P u = some e) (hi : P.info? e = some i) (hz : (zeroT P e).isSome = true) (hx : Rep s x v) (hy : Rep s y v2)
    {X Y : Opd} (hX : X.ev T = x) (hY : Y.ev T = y) {md : Option (Nat × Option Blk)} (hnid : H[nid]? = some none) (hfree : s.ρ nid = none) (hs : ecore (.app e i.size i.bytes X Y) T H nid = some (d, md, nb)) :
    ∃ r s1, (Builtin.append_ #[t, u] ty #[v, v2]).run P s.w = .ok r s1.w ∧ Inv (newH (modH H md) nid nb) s1 ∧ Ext H s (newH (modH H md) nid nb) s1 ∧ Rep s1 d r ∧ ∀ b, b ≠ nid → s1.ρ b = s.ρ b := by
  obtain ⟨zd, hzd⟩ := Option.isSome_iff_exists.1 hz
  obtain ⟨z, z1, z2, z3, z4, i', hi', hz'⟩ := zeroT_run hzd s.w
  rw [hi] at hi'
  cases hi'
  have hzs : z.cells.size = i.size := by
    have h1 := RepL_length (z2 s)
    have h2 : i.size = zd.length := by simpa [szT, hi] using z4
    simpa [h2] using h1
  simp only [ecore, hX, hY, Option.bind_eq_some_iff] at hs
  obtain ⟨news, hnews, hs⟩ := hs
  obtain ⟨a2, c2, rfl, vss, w1, w2, w3, w4⟩ := news_rep I hy hnews
  have hvl : vss.flatten.length = news.length * i.size := by rw [flat_len w2, w1]
  have w4' : news.length = 0 ∨ ∃ g o, a2 = some ⟨g, o, none⟩ ∧ ∀ (j : Nat) (u : Value), vss.flatten[j]? = some u → s.w.cell? ⟨g, o + j, none⟩ = some u := by
    rcases w4 with rfl | w4
    · exact .inl rfl
    · exact .inr w4
  have hfy := first_run (P := P) (cap := c2) hvl w4'
  have hfy' := first_run (P := P) (w := s.w.drew) (cap := c2) hvl (by simpa using w4')
  -- a new block
  have grow : ∀ (H' : Heap) (es0 : List (List D)) (vs0 : List (List Value)) (n cap ro : Nat), Inv H' s.drew → H'[nid]? = some none → vs0.length = es0.length → (∀ x ∈ vs0, x.length = i.size) →
      (∀ (k : Nat) (c : List D) (vs : List Value), es0[k]? = some c → vs0[k]? = some vs → RepL s c vs ∧ ∀ u ∈ vs, u.oneCell' = true) → n = es0.length → n + news.length ≤ cap →
      ∃ s1, s1.w = s.drew.w.alloc (.cells (vs0.flatten.toArray ++ vss.flatten.toArray ++ Builtin.zeroCells z.cells (cap - (n + news.length))) e) ∧ Inv (H'.set nid (some ⟨e, i.size, es0 ++ news, ro⟩)) s1 ∧ Ext H' s.drew (H'.set nid (some ⟨e, i.size, es0 ++ news, ro⟩)) s1 ∧
        Rep s1 (.osl nid 0 (n + news.length) false) (.slice (some ⟨s.w.heap.size, 0, none⟩) (n + news.length) cap) ∧ ∀ b, b ≠ nid → s1.ρ b = s.ρ b := by
    intro H' es0 vs0 n cap ro I' hn' h1 h2 h3 hn hcap
    have hfl0 : vs0.flatten.length = es0.length * i.size := by rw [flat_len h2, h1]
    have M := drew_mono s
    have hcs : (vs0.flatten.toArray ++ vss.flatten.toArray ++ Builtin.zeroCells z.cells (cap - (n + news.length))).size = cap * i.size := by
      simp only [Array.size_append, List.size_toArray, hfl0, hvl, size_zeroCells, hzs]
      rw [← Nat.add_mul, ← Nat.add_mul]
      congr 1
      omega
    refine grow_step (s' := s.drew) I' hn' hfree ?_ (by simp [hn]) hcap (by rw [hcs]; exact Nat.le_refl _)
    refine RowIn.flat (vss := vs0 ++ vss) (by simp [h1, w1]) (fun x hx => by
      rcases List.mem_append.1 hx with hx | hx
      · exact h2 x hx
      · exact w2 x hx) (fun k c vs hc hv => ?_) fun k hk => ?_
    · by_cases hk : k < es0.length
      · rw [List.getElem?_append_left hk] at hc
        rw [List.getElem?_append_left (by omega)] at hv
        obtain ⟨q1, q2⟩ := h3 k c vs hc hv
        exact ⟨RepL.mono M _ _ q1, q2⟩
      · rw [List.getElem?_append_right (by omega)] at hc
        rw [List.getElem?_append_right (by omega), h1] at hv
        obtain ⟨q1, q2⟩ := w3 _ c vs hc hv
        exact ⟨RepL.mono M _ _ q1, q2⟩
    · have hk' : k < vs0.flatten.length + vss.flatten.length := by
        rw [hfl0, hvl, ← Nat.add_mul]; simpa using hk
      rw [List.flatten_append, Array.getElem?_append_left (by simpa using hk')]
      simp
  split at hs
  · -- an own slice
    rename_i b o n full
    obtain ⟨blk, hb, hs⟩ := Option.bind_eq_some_iff.1 hs
    split at hs
    · rename_i hcond
      obtain ⟨q1, q2, q3, q4, q5, q6⟩ := hcond
      cases hs
      have hbs := blkOf_some hb
      have hx0 := hx
      simp only [Rep] at hx
      obtain ⟨l, cap, hρ, hcap, _, hx⟩ := hx
      have hbr := I.rel b blk l hbs hρ
      have hlsz : l.sz = i.size := hbr.size.trans q3
      have hbn : b ≠ nid := fun e => by rw [e, hnid] at hbs; cases hbs
      have hnidk : (H.set b none)[nid]? = some none := by rw [List.getElem?_set_ne hbn]; exact hnid
      by_cases hle : n + news.length ≤ cap
      · rcases hx with ⟨rfl, rfl, a, rfl⟩ | ⟨g, el, N, hg, rfl, hshape, hN⟩
        · -- nothing there, nothing new
          have hnil : news = [] := List.eq_nil_of_length_eq_zero (by omega)
          subst hnil
          have hf0 : vss.flatten = [] := List.eq_nil_of_length_eq_zero (by simpa using hvl)
          obtain ⟨m1, m2, m3⟩ := move_step I (k := o) hbs hρ hnid hfree
          rw [q2, q3] at m1 m2
          refine ⟨.slice a 0 0, _, ?_, by simpa [newH, modH] using m1, by simpa [newH, modH] using m2, ?_, fun b hb => by simp [hb]⟩
          · rw [append_place ht hu hi ty hfy hle]
            cases a with
            | none => rfl
            | some ad => simp [hf0, storeCells]
          · simp only [Rep]
            exact ⟨⟨l.blk, l.off + o * l.sz, l.sz⟩, 0, by simp, by simp, by simp, .inl ⟨by simp, rfl, a, rfl⟩⟩
        · -- room
          obtain ⟨cs, hcs, hrow⟩ := hbr.row g hg
          have hNs : N = cs.size := by simp [World.shape?, hcs] at hshape; omega
          have hoff : l.off + o * l.sz + n * i.size = l.off + blk.es.length * l.sz := by rw [← q1, hlsz, Nat.add_mul]; omega
          have hfit : l.off + blk.es.length * l.sz + vss.flatten.length ≤ cs.size := by
            rw [hvl, ← q1, hlsz, Nat.add_assoc, ← Nat.add_mul]
            have : (o + n + news.length) * i.size ≤ (o + cap) * i.size := Nat.mul_le_mul_right _ (by omega)
            rw [hlsz] at hN
            omega
          obtain ⟨s1, t1, t2, t3, t4, t5⟩ := write_row (P := P) (vs := vss.flatten) (k := l.off + blk.es.length * l.sz) (es' := blk.es ++ news) I hbs hρ hg hcs
            (by have : blk.ro * l.sz ≤ blk.es.length * l.sz := Nat.mul_le_mul_right _ q4; omega) hfit
            (fun u hu => by
              obtain ⟨vs, hvs, hu⟩ := List.mem_flatten.1 hu
              obtain ⟨k, hk⟩ := List.getElem?_of_mem hvs
              have hkl : k < news.length := by have := (List.getElem?_eq_some_iff.1 hk).1; omega
              exact (w3 k _ vs (List.getElem?_eq_getElem hkl) hk).2 u hu)
            (fun k cells hk => by
              by_cases hkl : k < blk.es.length
              · rw [List.getElem?_append_left hkl] at hk
                obtain ⟨p1, p2⟩ := hrow k cells hk
                refine ⟨p1, fun j d hj => ?_⟩
                obtain ⟨u', hu', p3, p4⟩ := p2 j d hj
                have hjl := (List.getElem?_eq_some_iff.1 hj).1
                refine ⟨u', ?_, p3, p4⟩
                rw [if_neg]
                · exact hu'
                · intro hcon
                  have : (k + 1) * l.sz ≤ blk.es.length * l.sz := Nat.mul_le_mul_right _ hkl
                  rw [Nat.add_mul] at this
                  omega
              · rw [List.getElem?_append_right (by omega)] at hk
                have hkn := (List.getElem?_eq_some_iff.1 hk).1
                have hv : vss[k - blk.es.length]? = some (vss[k - blk.es.length]'(by omega)) := List.getElem?_eq_getElem (by omega)
                obtain ⟨p1, p2⟩ := w3 _ cells _ hk hv
                have hvz := w2 _ (List.getElem_mem (show k - blk.es.length < vss.length by omega))
                have hcl := RepL_length p1
                refine ⟨by omega, fun j d hj => ?_⟩
                obtain ⟨u', hu', p3⟩ := RepL_at p1 hj
                have hjl := (List.getElem?_eq_some_iff.1 hj).1
                have hpos : l.off + k * l.sz + j - (l.off + blk.es.length * l.sz) = (k - blk.es.length) * i.size + j := by
                  rw [hlsz, Nat.sub_mul]
                  have : blk.es.length * i.size ≤ k * i.size := Nat.mul_le_mul_right _ (by omega)
                  omega
                have hin : l.off + blk.es.length * l.sz ≤ l.off + k * l.sz + j ∧ l.off + k * l.sz + j < l.off + blk.es.length * l.sz + vss.flatten.length := by
                  have h1 : blk.es.length * i.size ≤ k * i.size := Nat.mul_le_mul_right _ (by omega)
                  have h2 : (k - blk.es.length + 1) * i.size ≤ news.length * i.size := Nat.mul_le_mul_right _ hkn
                  rw [Nat.add_mul, Nat.sub_mul] at h2
                  rw [hvl, hlsz]
                  omega
                refine ⟨u', ?_, p2 u' (List.mem_of_getElem? hu'), p3⟩
                rw [if_pos hin, hpos, flat_at w2 hv (by omega)]
                exact hu')
          simp only [q2, q3] at t2 t3
          have hb1 : (H.set b (some (⟨e, i.size, blk.es ++ news, blk.ro⟩ : Blk)))[b]? = some (some ⟨e, i.size, blk.es ++ news, blk.ro⟩) := by
            rw [List.getElem?_set_self ((List.getElem?_eq_some_iff.1 hbs).1)]
          obtain ⟨m1, m2, m3⟩ := move_step t2 (k := o) (nid := nid) hb1 (by rw [t5]; exact hρ) (by rw [List.getElem?_set_ne hbn]; exact hnid) (by rw [t5]; exact hfree)
          have hdrop : (blk.es ++ news).drop o = blk.es.drop o ++ news := by rw [List.drop_append_of_le_length (by omega)]
          simp only [List.set_set, List.length_set, hdrop, q2, q3] at m1 m2
          refine ⟨.slice (some ⟨g, l.off + o * l.sz, none⟩) (n + news.length) cap, _, ?_, m1, t3.trans I m2, ?_, fun b hb => by simp [hb, t5]⟩
          · rw [append_place ht hu hi ty hfy hle]
            simp only [add_none, hoff, t1, Result.andThen_ok]
          · simp only [Rep]
            refine ⟨⟨l.blk, l.off + o * l.sz, l.sz⟩, cap, by simp, hle, by simp, .inr ⟨g, el, N, hg, by simp, ?_, ?_⟩⟩
            · exact (t3.shape g (shape_lt hshape)).trans hshape
            · rw [Nat.zero_add, Nat.add_assoc, ← Nat.add_mul]; exact hN
      · -- no room
        obtain ⟨k1, k2⟩ := kill_step I b
        have hx' : newsD H i.size (.osl b o n full) = some ((blk.es.drop o).take n) := by
          unfold newsD
          rw [if_pos (by simp [szOk, hb, q3])]
          simp only [elemsD, hb, Option.bind_some]
          rw [if_pos (by omega)]
        have htake : (blk.es.drop o).take n = blk.es.drop o := List.take_of_length_le (by simp; omega)
        rw [htake] at hx'
        have hlen0 : (blk.es.drop o).length = n := by simp; omega
        obtain ⟨a, cap', hv, vs0, y1, y2, y3, y4⟩ := news_rep I hx0 hx'
        have hvv : v = .slice a n cap ∧ cap' = cap := by
          rw [hlen0] at hv
          rcases hx with ⟨rfl, rfl, a', rfl⟩ | ⟨g, el, N, hg, rfl, _, _⟩
          · cases hv; exact ⟨rfl, rfl⟩
          · cases hv; exact ⟨rfl, rfl⟩
        obtain ⟨rfl, rfl⟩ := hvv
        have hfx := first_run (P := P) (w := s.w.drew) (a := a) (m := n) (cap := cap') (size := i.size) (vs := vs0.flatten) (by rw [flat_len y2, y1, hlen0])
          (by rcases y4 with y4 | y4
              · left; rw [← hlen0, y4]; rfl
              · right; simpa using y4)
        have hgrow := append_grow (w := s.w) ht hu hi hz' ty hfx hfy' (by omega) q6 q5
        obtain ⟨s1, g1, g2, g3, g4, g5⟩ := grow (H.set b none) (blk.es.drop o) vs0 n (grownCap s.w (n + news.length) cap' e) (blk.ro - o) k1.drew hnidk y1 y2 y3 hlen0.symm (grownCap_ge _ _ _ _)
        refine ⟨_, s1, ?_, g2, (k2.trans I (Ext.drew.trans k1 g3)), by simpa using g4, g5⟩
        rw [hgrow, g1]
        rfl
    · cases hs
  · -- an immutable slice that has no room
    rename_i z' full es
    split at hs
    · rename_i hcond
      obtain ⟨rfl, q2, q3, q4, q5⟩ := hcond
      cases hs
      have hx0 := hx
      simp only [Rep] at hx
      obtain ⟨a, cap, rfl, hcap, hfull, hx⟩ := hx
      have hce := hfull trivial
      subst hce
      have hx' : newsD H i.size (.sl z' true es) = some es := by
        unfold newsD
        rw [if_pos (by rcases q2 with rfl | rfl <;> simp [szOk])]
        rfl
      obtain ⟨a', cap', hv, vs0, y1, y2, y3, y4⟩ := news_rep I hx0 hx'
      cases hv
      by_cases hnew : news = []
      · subst hnew
        have hes : es = [] := by
          rcases q3 with q3 | q3
          · exact q3
          · simp at q3
        subst hes
        have hf0 : vss.flatten = [] := List.eq_nil_of_length_eq_zero (by simpa using hvl)
        have I' := I.place hfree (some (⟨e, i.size, [], 0⟩ : Blk))
        have hlt := (List.getElem?_eq_some_iff.1 hnid).1
        refine ⟨.slice a 0 0, { s with ρ := fun b => if b = nid then some ⟨none, 0, i.size⟩ else s.ρ b }, ?_, ?_, ?_, ?_, fun b hb => by simp [hb]⟩
        · have hp := append_place (w := s.w) (a := a) (n := 0) (cap := 0) ht hu hi ty hfy (by simp)
          simp only [List.length_nil] at hp ⊢
          rw [hp]
          cases a with
          | none => rfl
          | some ad => simp [hf0, storeCells]
        · have M : Mono s { s with ρ := fun b => if b = nid then some ⟨none, 0, i.size⟩ else s.ρ b } := ⟨fun _ _ _ h _ => h, fun _ _ _ _ h => h, fun b1 l1 h => by
            show (if b1 = nid then _ else s.ρ b1) = _
            rw [if_neg (fun e => by subst e; rw [hfree] at h; cases h)]; exact h, fun _ _ h => h⟩
          refine ⟨fun b1 l1 h => ?_, fun b1 bk1 l1 h1 h2 => ?_, fun b1 b2 bk1 bk2 l1 l2 c1 h1 h2 h3 h4 h5 h6 => ?_, fun c o h => ?_, I.lim⟩
          · simp only at h
            simp only [newH, modH, List.length_set]
            split at h
            · omega
            · exact I.dom b1 l1 h
          · simp only at h2
            split at h2
            · rename_i e1
              subst e1
              cases h2
              simp only [newH, modH, List.getElem?_set_self hlt, Option.some.injEq] at h1
              subst h1
              exact ⟨rfl, fun _ => by simp, fun c hc => by cases hc⟩
            · exact (I'.rel b1 bk1 l1 h1 h2).mono M fun _ _ => rfl
          · simp only at h3 h4
            split at h3
            · cases h3; cases h5
            · split at h4
              · cases h4; cases h6
              · exact I'.inj b1 b2 bk1 bk2 l1 l2 c1 h1 h2 h3 h4 h5 h6
          · obtain ⟨b1, bk1, l1, h1, h2, h3, h4⟩ := h
            simp only at h2
            split at h2
            · cases h2; cases h3
            · exact I'.cov c o ⟨b1, bk1, l1, h1, h2, h3, h4⟩
        · refine ⟨Nat.le_refl _, rfl, rfl, rfl, fun _ _ _ _ => rfl, fun _ _ _ => rfl, fun _ _ => rfl, fun b1 l1 h => ?_, fun c o h => ?_, fun _ _ h => .inl h, fun _ _ h => .inl h⟩
          · show (if b1 = nid then _ else s.ρ b1) = _
            rw [if_neg (fun e => by subst e; rw [hfree] at h; cases h)]; exact h
          · obtain ⟨b1, bk1, l1, h1, h2, h3, h4⟩ := h
            simp only at h2
            split at h2
            · cases h2; cases h3
            · exact .inl ((wr_place hfree _ hnid).1 ⟨b1, bk1, l1, h1, h2, h3, h4⟩)
        · simp only [Rep]
          exact ⟨⟨none, 0, i.size⟩, 0, by simp, by simp, by simp, .inl ⟨rfl, rfl, a, rfl⟩⟩
      · have hpos : 0 < news.length := by cases news with | nil => exact absurd rfl hnew | cons _ _ => simp
        have hfx := first_run (P := P) (w := s.w.drew) (a := a) (m := es.length) (cap := es.length) (size := i.size) (vs := vs0.flatten) (by rw [flat_len y2, y1])
          (by rcases y4 with y4 | y4
              · left; rw [y4]; rfl
              · right; simpa using y4)
        have hgrow := append_grow (w := s.w) ht hu hi hz' ty hfx hfy' (by omega) q5 q4
        obtain ⟨s1, g1, g2, g3, g4, g5⟩ := grow H es vs0 es.length (grownCap s.w (es.length + news.length) es.length e) 0 I.drew hnid y1 y2 y3 rfl (grownCap_ge _ _ _ _)
        refine ⟨_, s1, ?_, g2, Ext.drew.trans I g3, g4, g5⟩
        rw [hgrow, g1]
        rfl
    · cases hs
  · cases hs
end
end Go.Proofs.Ytlagfebklcaaeaa

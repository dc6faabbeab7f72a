/- A value-level machine over the model, part 11: stores, append and copy. -/
import Derived.Test.YtlagfebklcaaeaaA10
namespace Go.Proofs.Ytlagfebklcaaeaa
set_option linter.all false

/-- The elements of a slice, or the bytes of a string. -/
def newsD (H : Heap) (sz : Nat) (d : D) : Option (List (List D)) := if szOk H sz d = true then elemsD H d else none
/-- What a store, an append or a copy gives; the block that it turns; the block that it makes, by the name nid. -/
def ecore (op : IOp) (T : Tm) (H : Heap) (nid : Nat) : Option (D × Option (Nat × Option Blk) × Option Blk) :=
  match op with
  | .store sz a x => match a.ev T with
    | .ptr b e j => (blkOf H b).bind fun blk => (blk.es[e]?).bind fun c => (boxed (sz.getD 1) (x.ev T)).bind fun n =>
      if blk.ro ≤ e ∧ j + n.length ≤ c.length ∧ 0 < n.length then some (.tup [], some (b, some { blk with es := blk.es.set e (c.take j ++ n ++ c.drop (j + n.length)) }), none) else none
    | _ => none
  | .app e sz bytes x y => (newsD H sz (y.ev T)).bind fun news => match x.ev T with
    | .osl b o n _ => (blkOf H b).bind fun blk =>
      if o + n = blk.es.length ∧ blk.elem = e ∧ blk.sz = sz ∧ blk.ro ≤ blk.es.length ∧ (n + news.length) * bytes ≤ 140737488355328 ∧ n + news.length ≤ 9223372036854775807 then
        some (.osl nid 0 (n + news.length) false, some (b, none), some ⟨e, sz, blk.es.drop o ++ news, blk.ro - o⟩) else none
    | .sl z full es => if full = true ∧ (z = sz ∨ es = []) ∧ (es = [] ∨ 0 < news.length) ∧ (es.length + news.length) * bytes ≤ 140737488355328 ∧ es.length + news.length ≤ 9223372036854775807 then
        some (.osl nid 0 (es.length + news.length) false, none, some ⟨e, sz, es ++ news, 0⟩) else none
    | _ => none
  | .cpy sz x y => (newsD H sz (y.ev T)).bind fun news => match x.ev T with
    | .osl b o n _ => (blkOf H b).bind fun blk =>
      if o + n ≤ blk.es.length ∧ blk.ro ≤ o ∧ blk.sz = sz then
        some (.int .i64 (min news.length n : Nat), some (b, some { blk with es := blk.es.take o ++ news.take (min news.length n) ++ blk.es.drop (o + min news.length n) }), none) else none
    | _ => none
  | .clr sz z x => match x.ev T with
    | .osl b o n _ => (blkOf H b).bind fun blk =>
      if o + n ≤ blk.es.length ∧ blk.ro ≤ o ∧ blk.sz = sz ∧ z.length = sz then some (.tup [], some (b, some { blk with es := blk.es.take o ++ List.replicate n z ++ blk.es.drop (o + n) }), none) else none
    | .sl _ _ es => if es = [] then some (.tup [], none, none) else none
    | _ => none
  | _ => none
def modH (H : Heap) : Option (Nat × Option Blk) → Heap
  | none => H
  | some (b, x) => H.set b x
def newH (H : Heap) (nid : Nat) : Option Blk → Heap
  | none => H
  | some b => H.set nid (some b)
section
variable {P : Program} {Hf H : Heap} {s : St} {nid : Nat} {d : D} {nb : Option Blk} {T : Tm} {a : Act}
theorem news_rep (I : Inv H s) {x : D} {v : Value} {sz : Nat} {es : List (List D)} (h : Rep s x v) (he : newsD H sz x = some es) :
    ∃ a cap, v = .slice a es.length cap ∧ ∃ vss : List (List Value), vss.length = es.length ∧ (∀ x ∈ vss, x.length = sz) ∧
      (∀ (i : Nat) (e : List D) (vs : List Value), es[i]? = some e → vss[i]? = some vs → RepL s e vs ∧ ∀ u ∈ vs, u.oneCell' = true) ∧
      (es = [] ∨ ∃ g o, a = some ⟨g, o, none⟩ ∧ ∀ (j : Nat) (u : Value), vss.flatten[j]? = some u → s.w.cell? ⟨g, o + j, none⟩ = some u) := by
  unfold newsD at he
  split at he
  · rename_i hok
    obtain ⟨a, cap, rfl, hel⟩ := elems_rep I (fun _ _ h _ => h) h he
    refine ⟨a, cap, rfl, ?_⟩
    by_cases hemp : es = []
    · subst hemp
      exact ⟨[], rfl, by simp, fun i e vs h => by simp at h, .inl rfl⟩
    · rcases hel with hel | ⟨g, o, sz', rfl, hat⟩
      · exact absurd hel hemp
      · have hz : sz' = sz := by
          have h0 : 0 < es.length := by cases es with | nil => exact absurd rfl hemp | cons _ _ => simp
          unfold elemsD at he
          split at he
          · rename_i z f es'
            cases he
            simp only [szOk, Bool.or_eq_true, decide_eq_true_eq, List.isEmpty_iff] at hok
            rcases hok with rfl | hok
            · simp only [Rep] at h
              obtain ⟨a', cap', h1, _, _, h2⟩ := h
              rcases h2 with h2 | ⟨g', o', _, h3⟩
              · exact absurd h2 hemp
              · exact ((hat 0 _ (List.getElem?_eq_getElem h0)).1).symm.trans (RepR_at h3 (List.getElem?_eq_getElem h0)).1
            · exact absurd hok hemp
          · rename_i b o' n f
            simp only [szOk] at hok
            split at hok
            · rename_i blk hb
              simp only [hb, Option.bind_some] at he
              split at he
              · cases he
                simp only [Rep] at h
                obtain ⟨l, cap', hρ, _, _, hx⟩ := h
                have hbr := I.rel b blk l (blkOf_some hb) hρ
                rcases hx with ⟨rfl, _, _⟩ | ⟨g', el, N, hg, _, _, _⟩
                · simp at hemp
                · obtain ⟨cs, _, hrow⟩ := hbr.row g' hg
                  have h1 := (hat 0 _ (List.getElem?_eq_getElem h0)).1
                  have h2 := List.getElem?_eq_getElem h0
                  rw [List.getElem?_take] at h2
                  split at h2
                  · rw [List.getElem?_drop] at h2
                    have h3 := (hrow _ _ h2).1
                    rw [← h1, h3, hbr.size]
                    exact of_decide_eq_true hok
                  · cases h2
              · cases he
            · cases hok
          · cases he
        subst hz
        have cellAt : ∀ i, i < es.length → ∃ vs : List Value, vs.length = sz' ∧ RepL s (es.getD i []) vs ∧ (∀ u ∈ vs, u.oneCell' = true) ∧ ∀ (j : Nat) (u : Value), vs[j]? = some u → s.w.cell? ⟨g, o + i * sz' + j, none⟩ = some u := by
          intro i hi
          obtain ⟨h1, h2⟩ := hat i es[i] (List.getElem?_eq_getElem hi)
          have hg : es.getD i [] = es[i] := by rw [List.getD_eq_getElem?_getD, List.getElem?_eq_getElem hi]; rfl
          rw [hg]
          have : ∀ (c : List D) (k : Nat), (∀ (j : Nat) (d : D), c[j]? = some d → ∃ u, s.w.cell? ⟨g, k + j, none⟩ = some u ∧ u.oneCell' = true ∧ Rep s d u) →
              ∃ vs : List Value, vs.length = c.length ∧ RepL s c vs ∧ (∀ u ∈ vs, u.oneCell' = true) ∧ ∀ (j : Nat) (u : Value), vs[j]? = some u → s.w.cell? ⟨g, k + j, none⟩ = some u := by
            intro c
            induction c with
            | nil => intro k _; exact ⟨[], rfl, by simp [RepL], by simp, fun j u h => by simp at h⟩
            | cons d c ih =>
              intro k hk
              obtain ⟨u, u1, u2, u3⟩ := hk 0 d rfl
              obtain ⟨vs, v1, v2, v3, v4⟩ := ih (k + 1) (fun j d hj => by
                have := hk (j + 1) d (by simpa using hj)
                rwa [show k + (j + 1) = k + 1 + j from by omega] at this)
              refine ⟨u :: vs, by simp [v1], by simp only [RepL]; exact ⟨u, vs, rfl, u3, v2⟩, fun x hx => ?_, fun j x hx => ?_⟩
              · rcases List.mem_cons.1 hx with rfl | hx
                · exact u2
                · exact v3 x hx
              · cases j with
                | zero => simp at hx; subst hx; exact u1
                | succ j =>
                  have := v4 j x (by simpa using hx)
                  rwa [show k + (j + 1) = k + 1 + j from by omega]
          obtain ⟨vs, v1, v2, v3, v4⟩ := this es[i] (o + i * sz') h2
          exact ⟨vs, by omega, v2, v3, v4⟩
        have build : ∀ n, n ≤ es.length → ∃ vss : List (List Value), vss.length = n ∧ (∀ x ∈ vss, x.length = sz') ∧
            (∀ (i : Nat) (vs : List Value), vss[i]? = some vs → RepL s (es.getD i []) vs ∧ (∀ u ∈ vs, u.oneCell' = true) ∧ ∀ (j : Nat) (u : Value), vs[j]? = some u → s.w.cell? ⟨g, o + i * sz' + j, none⟩ = some u) := by
          intro n
          induction n with
          | zero => intro _; exact ⟨[], rfl, by simp, fun i vs h => by simp at h⟩
          | succ n ih =>
            intro hn
            obtain ⟨vss, w1, w2, w3⟩ := ih (by omega)
            obtain ⟨vs, v1, v2, v3, v4⟩ := cellAt n (by omega)
            refine ⟨vss ++ [vs], by simp [w1], fun x hx => ?_, fun i x hx => ?_⟩
            · simp at hx
              rcases hx with hx | rfl
              · exact w2 x hx
              · exact v1
            · by_cases hi : i < n
              · rw [List.getElem?_append_left (by omega)] at hx
                exact w3 i x hx
              · rw [List.getElem?_append_right (by omega), w1] at hx
                have : i - n = 0 := by
                  by_cases h0 : i - n = 0
                  · exact h0
                  · rw [List.getElem?_eq_none (by simp; omega)] at hx; cases hx
                rw [this] at hx
                cases hx
                rw [show i = n from by omega]
                exact ⟨v2, v3, v4⟩
        obtain ⟨vss, w1, w2, w3⟩ := build es.length (Nat.le_refl _)
        refine ⟨vss, w1, w2, fun i e vs he' hv => ?_, .inr ⟨g, o, rfl, fun j u hj => ?_⟩⟩
        · obtain ⟨q1, q2, _⟩ := w3 i vs hv
          rw [List.getD_eq_getElem?_getD, he'] at q1
          exact ⟨q1, q2⟩
        · have hjl := (List.getElem?_eq_some_iff.1 hj).1
          rw [flat_len w2] at hjl
          by_cases hs0 : sz' = 0
          · subst hs0; simp at hjl
          · have hq : j / sz' < vss.length := Nat.div_lt_of_lt_mul (by rw [Nat.mul_comm]; exact hjl)
            have hm : j % sz' < sz' := Nat.mod_lt _ (by omega)
            have hjd : j / sz' * sz' + j % sz' = j := by rw [Nat.mul_comm]; exact Nat.div_add_mod j sz'
            have hv := List.getElem?_eq_getElem hq
            have hf := flat_at w2 hv hm
            rw [hjd, hj] at hf
            have := (w3 _ _ hv).2.2 _ u hf.symm
            rwa [show o + j / sz' * sz' + j % sz' = o + j from by omega] at this
  · cases he

def nextV : Next → Option Value
  | .value v => some v
  | .skip => some undef
  | _ => none
def ER (P : Program) (H : Heap) (s : St) (d : D) (H1 : Heap) (x : Sem Next) : Prop :=
  ∃ r v s1, x.run P s.w = .ok r s1.w ∧ nextV r = some v ∧ Inv H1 s1 ∧ Ext H s H1 s1 ∧ Rep s1 d v

theorem splice_at {α : Type} (l v : List α) (o : Nat) (h : o + v.length ≤ l.length) (i : Nat) :
    (l.take o ++ v ++ l.drop (o + v.length))[i]? = if o ≤ i ∧ i < o + v.length then v[i - o]? else l[i]? := by
  have h1 : (l.take o).length = o := by simp; omega
  split
  · rename_i hc
    rw [List.append_assoc, List.getElem?_append_right (by omega), h1, List.getElem?_append_left (by omega)]
  · rename_i hc
    by_cases hlt : i < o
    · rw [List.append_assoc, List.getElem?_append_left (by omega), List.getElem?_take, if_pos hlt]
    · rw [List.getElem?_append_right (by simp; omega), List.getElem?_drop]
      congr 1
      simp
      omega
theorem shapeT_sz {P : Program} {t : TypeId} {sz : Option Nat} (h : shapeT P t = some sz) : szT P t = some (sz.getD 1) := by
  unfold shapeT at h
  split at h
  · rename_i hn; cases h; exact hn
  · rename_i hn; cases h; exact hn
  · cases h
/-- Cells are written into an own block. -/
theorem write_row (I : Inv H s) {b g : Nat} {blk : Blk} {l : Loc} {cs : Array Value} {vs : List Value} {es' : List (List D)} {k : Nat} (hb : H[b]? = some (some blk)) (hρ : s.ρ b = some l) (hg : l.blk = some g) (hcs : s.w.heap[g]? = some (.cells cs blk.elem (0, 0)))
    (hk : l.off + blk.ro * l.sz ≤ k) (hfit : k + vs.length ≤ cs.size) (h1 : ∀ u ∈ vs, u.oneCell' = true)
    (hrow : ∀ e cells, es'[e]? = some cells → cells.length = l.sz ∧ ∀ j d, cells[j]? = some d → ∃ u, (if k ≤ l.off + e * l.sz + j ∧ l.off + e * l.sz + j < k + vs.length then vs[l.off + e * l.sz + j - k]? else cs[l.off + e * l.sz + j]?) = some u ∧ u.oneCell' = true ∧ Rep s d u) :
    ∃ s1, (storeCells ⟨g, k, none⟩ vs).run P s.w = .ok () s1.w ∧ Inv (H.set b (some { blk with es := es' })) s1 ∧ Ext H s (H.set b (some { blk with es := es' })) s1 ∧ Mono s s1 ∧ s1.ρ = s.ρ := by
  have hst := run_storeCells_at P g k blk.elem vs 0 cs s.w hcs (by omega) h1
  simp only [Nat.add_zero] at hst
  have hat : ∀ i : Nat, ((cs.toList.take k ++ vs ++ cs.toList.drop (k + vs.length)).toArray)[i]? = if k ≤ i ∧ i < k + vs.length then vs[i - k]? else cs[i]? := fun i => by
    rw [List.getElem?_toArray, splice_at cs.toList vs k (by simpa using hfit)]
    split <;> simp
  have hr := row_step (cs' := (cs.toList.take k ++ vs ++ cs.toList.drop (k + vs.length)).toArray) (blk' := { blk with es := es' }) I hb hρ hg hcs (by simp; omega) (fun o ho => by
    rw [hat, if_neg (by omega)]) rfl rfl (Nat.le_refl _) (fun e cells he => by
    obtain ⟨q1, q2⟩ := hrow e cells he
    exact ⟨q1, fun j d hj => by rw [hat]; exact q2 j d hj⟩)
  exact ⟨_, hst, hr.1, hr.2, hr.2.mono I, rfl⟩
theorem store_rep {t : TypeId} {sz : Option Nat} {y : D} {v u : Value} {b e j : Nat} {blk : Blk} {c n : List D} (I : Inv H s) (ht : shapeT P t = some sz) (hx : Rep s (.ptr b e j) v) (hy : Rep s y u) (hb : blkOf H b = some blk) (hc : blk.es[e]? = some c)
    (hn : boxed (sz.getD 1) y = some n) (hro : blk.ro ≤ e) (hj : j + n.length ≤ c.length) (h0 : 0 < n.length) : ∃ s1, (Instr.storeAt t v u).run P s.w = .ok () s1.w ∧
      Inv (H.set b (some { blk with es := blk.es.set e (c.take j ++ n ++ c.drop (j + n.length)) })) s1 ∧ Ext H s (H.set b (some { blk with es := blk.es.set e (c.take j ++ n ++ c.drop (j + n.length)) })) s1 ∧ s1.ρ = s.ρ := by
  obtain ⟨rfl, hnl, hok⟩ := boxed_spec hn
  obtain ⟨r1, r2⟩ := RepL_cells hy hok
  simp only [Rep] at hx
  obtain ⟨l, g, hρ, hg, rfl⟩ := hx
  have hbs := blkOf_some hb
  obtain ⟨cs, hcs, hrow⟩ := (I.rel b blk l hbs hρ).row g hg
  obtain ⟨hcl, hcells⟩ := hrow e c hc
  have hul : u.cells.toList.length = y.cells.length := RepL_length r1
  have helt := (List.getElem?_eq_some_iff.1 hc).1
  have hcsz : l.off + e * l.sz + j + u.cells.toList.length ≤ cs.size := by
    obtain ⟨u', hu', _⟩ := hcells (c.length - 1) c[c.length - 1] (List.getElem?_eq_getElem (by omega))
    have := (Array.getElem?_eq_some_iff.1 hu').1
    omega
  have hw := write_row (P := P) (vs := u.cells.toList) (k := l.off + e * l.sz + j) (es' := blk.es.set e (c.take j ++ y.cells ++ c.drop (j + y.cells.length))) I hbs hρ hg hcs
    (by have : blk.ro * l.sz ≤ e * l.sz := Nat.mul_le_mul_right _ hro; omega) hcsz r2 (fun e' cells he' => by
      rw [List.getElem?_set] at he'
      split at he'
      · rename_i ee
        subst ee
        have he'' : c.take j ++ y.cells ++ c.drop (j + y.cells.length) = cells := by
          first
            | (rw [if_pos helt] at he'; exact Option.some.inj he')
            | exact Option.some.inj he'
        subst he''
        refine ⟨by simp; omega, fun i d hi => ?_⟩
        rw [splice_at c y.cells j hj] at hi
        split at hi
        · rename_i hc1
          obtain ⟨u', hu', hr'⟩ := RepL_at r1 hi
          refine ⟨u', ?_, r2 u' (List.mem_of_getElem? hu'), hr'⟩
          rw [if_pos (by omega), show l.off + e * l.sz + i - (l.off + e * l.sz + j) = i - j from by omega]
          exact hu'
        · rename_i hc1
          obtain ⟨u', hu', q1, q2⟩ := hcells i d hi
          exact ⟨u', by rw [if_neg (by omega)]; exact hu', q1, q2⟩
      · rename_i hne
        obtain ⟨q1, q2⟩ := hrow e' cells he'
        refine ⟨q1, fun i d hi => ?_⟩
        obtain ⟨u', hu', q3, q4⟩ := q2 i d hi
        have hil := (List.getElem?_eq_some_iff.1 hi).1
        refine ⟨u', ?_, q3, q4⟩
        rw [if_neg]
        · exact hu'
        · intro hcon
          rcases Nat.lt_or_gt_of_ne hne with hlt | hlt
          · have : (e + 1) * l.sz ≤ e' * l.sz := Nat.mul_le_mul_right _ hlt
            rw [Nat.add_mul] at this
            omega
          · have : (e' + 1) * l.sz ≤ e * l.sz := Nat.mul_le_mul_right _ hlt
            rw [Nat.add_mul] at this
            omega)
  obtain ⟨s1, w1, w2, w3, _, w5⟩ := hw
  refine ⟨s1, ?_, w2, w3, w5⟩
  have hsize : ¬ (u.cells.size ≠ sz.getD 1) := by
    intro hcon; apply hcon
    have : u.cells.toList.length = u.cells.size := by simp
    omega
  simp only [Instr.storeAt, Instr.sureAddr, storeVar, Sem.run_bind, Sem.run_pure, Result.andThen_ok, szT_run (shapeT_sz ht), if_neg hsize, w1]
end
end Go.Proofs.Ytlagfebklcaaeaa

/- A value-level machine over the model, part 21: the theorem on regions that draw their order. -/
import Derived.Test.YtlagfebklcaaeaaA20
namespace Go.Proofs.Ytlagfebklcaaeaa
set_option linter.all false
section
variable {P : Program} {n : Nat} {H0 H : Heap} {s0 s : St} {T : Tm} {a : Act} {K : Tm → Heap → Prop} {X : Ex → Tm → Heap → Prop}

theorem fT_shift {S : Nat → Bool} : ∀ {l : List TE} {k : Nat} {T : Tm}, fT S l (k + 1) T = fT (fun j => S (j + 1)) l k T
  | [], _, _ => rfl
  | t :: l, k, T => by simp only [fT]; exact fT_shift
theorem fH_shift {S : Nat → Bool} : ∀ {l : List TE} {k : Nat} {H : Heap}, fH S l (k + 1) H = fH (fun j => S (j + 1)) l k H
  | [], _, _ => rfl
  | t :: l, k, H => by simp only [fH]; exact fH_shift
theorem low_shift (i : Nat) : (fun j => low (i + 1) (j + 1)) = low i := by funext j; simp [low]
/-- Out of a run in the text's order: what each operation does. -/
theorem drun_trace {bs : List (List Nat)} : ∀ {iol : List IQ} {T : Tm} {H : Heap} {nid : Nat} {acc : List TE}, DRun P bs iol T H nid acc K →
    ∃ (l : List TE) (nids : List Nat), l.length = iol.length ∧ nids.length = iol.length ∧ pairsOk bs (acc ++ l) = true ∧ K (fT (fun _ => true) l 0 T) (fH (fun _ => true) l 0 H) ∧
      (∀ (i : Nat) (m : Nat), nids[i]? = some m → nid ≤ m) ∧
      (∀ (i j : Nat) (mi mj : Nat) (t : TE), nids[i]? = some mi → nids[j]? = some mj → i < j → l[i]? = some t → t.nw.isSome = true → mi < mj) ∧
      ∀ (i : Nat) (io : IQ) (t : TE) (m : Nat), iol[i]? = some io → l[i]? = some t → nids[i]? = some m → Did P io (fT (low i) l 0 T) (fH (low i) l 0 H) m t
  | [], T, H, nid, acc, h => ⟨[], [], rfl, rfl, by simpa using h.1, h.2, fun i m h => by simp at h, fun i j mi mj t h => by simp at h, fun i io t m h => by simp at h⟩
  | o :: iol, T, H, nid, acc, h => by
    have main : ∀ (te : TE) (nid' : Nat), nid ≤ nid' → (te.nw.isSome = true → nid < nid') → Did P o T H nid te → DRun P bs iol (put T te.dst te.d) (upW H te.ws) nid' (acc ++ [te]) K →
        ∃ (l : List TE) (nids : List Nat), l.length = (o :: iol).length ∧ nids.length = (o :: iol).length ∧ pairsOk bs (acc ++ l) = true ∧ K (fT (fun _ => true) l 0 T) (fH (fun _ => true) l 0 H) ∧
          (∀ (i : Nat) (m : Nat), nids[i]? = some m → nid ≤ m) ∧
          (∀ (i j : Nat) (mi mj : Nat) (t : TE), nids[i]? = some mi → nids[j]? = some mj → i < j → l[i]? = some t → t.nw.isSome = true → mi < mj) ∧
          ∀ (i : Nat) (io : IQ) (t : TE) (m : Nat), (o :: iol)[i]? = some io → l[i]? = some t → nids[i]? = some m → Did P io (fT (low i) l 0 T) (fH (low i) l 0 H) m t := by
      intro te nid' hle hlt hdid hrun
      obtain ⟨l, nids, h1, h2, h3, h4, h5, h6, h7⟩ := drun_trace hrun
      refine ⟨te :: l, nid :: nids, by simp [h1], by simp [h2], by simpa using h3, ?_, fun i m hm => ?_, fun i j mi mj t hi hj hij hl hs => ?_, fun i io t m hi hl hm => ?_⟩
      · simp only [fT, fH, if_true]
        rw [fT_shift, fH_shift]
        exact h4
      · cases i with
        | zero => simp at hm; omega
        | succ i => exact Nat.le_trans hle (h5 i m (by simpa using hm))
      · cases j with
        | zero => omega
        | succ j =>
          have hj' : nids[j]? = some mj := by simpa using hj
          cases i with
          | zero =>
            simp at hi hl
            subst hi hl
            exact Nat.lt_of_lt_of_le (hlt hs) (h5 j mj hj')
          | succ i => exact h6 i j mi mj t (by simpa using hi) hj' (by omega) (by simpa using hl) hs
      · cases i with
        | zero =>
          simp at hi hl hm
          subst hi hl hm
          have e1 : fT (low 0) (te :: l) 0 T = T := by
            funext x
            have gen : ∀ (l : List TE) (k : Nat) (T : Tm), fT (low 0) l k T = T := by
              intro l
              induction l with
              | nil => intro k T; rfl
              | cons t l ih => intro k T; simp only [fT, low, Nat.not_lt_zero, decide_false, Bool.false_eq_true, if_false]; exact ih _ _
            rw [gen]
          have e2 : fH (low 0) (te :: l) 0 H = H := by
            have gen : ∀ (l : List TE) (k : Nat) (H : Heap), fH (low 0) l k H = H := by
              intro l
              induction l with
              | nil => intro k T; rfl
              | cons t l ih => intro k T; simp only [fH, low, Nat.not_lt_zero, decide_false, Bool.false_eq_true, if_false]; exact ih _ _
            rw [gen]
          rw [e1, e2]
          exact hdid
        | succ i =>
          have hlow : low (i + 1) 0 = true := by simp [low]
          simp only [fT, fH, hlow, if_true]
          rw [fT_shift, fH_shift, low_shift]
          exact h7 i io t m (by simpa using hi) (by simpa using hl) (by simpa using hm)
    simp only [DRun] at h
    split at h
    · rename_i hg
      obtain ⟨d, ws, rd, nw, hd, hrun⟩ := h
      refine main ⟨o.dst, o.op.looks, d, ws, rd, nw⟩ _ ?_ (fun hs => ?_) ⟨rfl, fun hs => ?_, .inl ⟨hg, rfl, hd⟩⟩ hrun
      · split <;> omega
      · have hs' : nw.isSome = true := hs
        rw [if_pos hs']; omega
      · have := hd.nw_spec hs
        exact ⟨this.1, this.2.1⟩
    · rename_i g b hg
      obtain ⟨v, hv, h1, h2⟩ := h
      by_cases e : v = b
      · obtain ⟨d, ws, rd, nw, hd, hrun⟩ := h1 e
        refine main ⟨o.dst, g :: o.op.looks, d, ws, rd, nw⟩ _ ?_ (fun hs => ?_) ⟨rfl, fun hs => ?_, .inr ⟨g, b, v, hg, hv, by simp, .inl ⟨e, rfl, hd⟩⟩⟩ hrun
        · split <;> omega
        · have hs' : nw.isSome = true := hs
          rw [if_pos hs']; omega
        · have := hd.nw_spec hs
          exact ⟨this.1, this.2.1⟩
      · exact main ⟨o.dst, [g], .tup [], [], [], none⟩ nid (Nat.le_refl _) (fun hs => by cases hs) ⟨rfl, (fun hs => by cases hs), .inr ⟨g, b, v, hg, hv, by simp, .inr ⟨e, rfl, rfl, rfl⟩⟩⟩ (h2 e)

/-! ### Edges -/
theorem befs_len (ops : List Oper) : (befs ops).length = ops.length := by
  unfold befs
  have : ∀ (l : List Oper) (acc : List (List Nat)), (l.foldl (fun acc o => acc ++ [((o.after.toList.filter (Region.binds .any ·)).flatMap fun e => e.on :: acc.getD e.on []).eraseDups]) acc).length = acc.length + l.length := by
    intro l
    induction l with
    | nil => intro acc; rfl
    | cons o l ih => intro acc; rw [List.foldl_cons, ih]; simp; omega
  simpa using this ops []
/-- Done operations hold what comes before them. -/
theorem befs_closed {ops : List Oper} {S : Nat → Bool} (hS : ∀ k o, ops[k]? = some o → S k = true → ∀ e ∈ o.after.toList, Region.binds .any e = true → S e.on = true) :
    ∀ (k : Nat) (o : Oper), ops[k]? = some o → (∀ e ∈ o.after.toList, Region.binds .any e = true → S e.on = true) → ∀ j ∈ (befs ops).getD k [], S j = true := by
  have key : ∀ (l pre : List Oper) (acc : List (List Nat)), ops = pre ++ l → acc.length = pre.length →
      (∀ k o, pre[k]? = some o → (∀ e ∈ o.after.toList, Region.binds .any e = true → S e.on = true) → ∀ j ∈ acc.getD k [], S j = true) →
      ∀ k o, ops[k]? = some o → (∀ e ∈ o.after.toList, Region.binds .any e = true → S e.on = true) →
        ∀ j ∈ (l.foldl (fun acc o => acc ++ [((o.after.toList.filter (Region.binds .any ·)).flatMap fun e => e.on :: acc.getD e.on []).eraseDups]) acc).getD k [], S j = true := by
    intro l
    induction l with
    | nil =>
      intro pre acc hops _ h k o ho he j hj
      simp at hops
      subst hops
      exact h k o ho he j hj
    | cons o0 l ih =>
      intro pre acc hops hlen h
      rw [List.foldl_cons]
      refine ih (pre ++ [o0]) _ (by rw [hops]; simp) (by simp [hlen]) fun k o hk he j hj => ?_
      by_cases hlt : k < pre.length
      · rw [List.getElem?_append_left hlt] at hk
        rw [List.getD_eq_getElem?_getD, List.getElem?_append_left (by omega), ← List.getD_eq_getElem?_getD] at hj
        exact h k o hk he j hj
      · have hk0 : k = pre.length := by
          have := (List.getElem?_eq_some_iff.1 hk).1
          simp at this
          omega
        subst hk0
        rw [List.getElem?_append_right (by omega)] at hk
        simp at hk
        subst hk
        rw [List.getD_eq_getElem?_getD, List.getElem?_append_right (by omega), hlen, Nat.sub_self] at hj
        simp only [List.getElem?_cons_zero, Option.getD_some] at hj
        rw [List.mem_eraseDups, List.mem_flatMap] at hj
        obtain ⟨e, hem, hj⟩ := hj
        rw [List.mem_filter] at hem
        rcases List.mem_cons.1 hj with rfl | hj
        · exact he e hem.1 hem.2
        · have hon := he e hem.1 hem.2
          by_cases hp : e.on < pre.length
          · have hpe : pre[e.on]? = some pre[e.on] := List.getElem?_eq_getElem hp
            have hoe : ops[e.on]? = some pre[e.on] := by rw [hops, List.getElem?_append_left hp]; exact hpe
            exact h e.on _ hpe (hS e.on _ hoe hon) j hj
          · rw [List.getD_eq_getElem?_getD, List.getElem?_eq_none (by omega)] at hj
            simp at hj
  exact fun k o ho he j hj => key ops [] [] rfl rfl (fun k o h => by simp at h) k o ho he j hj
theorem countP_lt {p q : Nat → Bool} : ∀ {l : List Nat}, (∀ x ∈ l, p x = true → q x = true) → (∃ x ∈ l, q x = true ∧ p x = false) → l.countP p < l.countP q
  | [], _, h => by obtain ⟨_, h, _⟩ := h; simp at h
  | y :: l, h1, h2 => by
    have hle : l.countP p ≤ l.countP q := List.countP_mono_left fun x hx hp => h1 x (by simp [hx]) hp
    obtain ⟨x, hx, hq, hp⟩ := h2
    rcases List.mem_cons.1 hx with rfl | hx
    · rw [List.countP_cons_of_neg (by simp [hp]), List.countP_cons_of_pos (by simp [hq])]
      omega
    · have ih := countP_lt (fun x hx => h1 x (by simp [hx])) ⟨x, hx, hq, hp⟩
      by_cases hy : p y = true
      · rw [List.countP_cons_of_pos hy, List.countP_cons_of_pos (h1 y (by simp) hy)]; omega
      · by_cases hqy : q y = true
        · rw [List.countP_cons_of_neg hy, List.countP_cons_of_pos hqy]; omega
        · rw [List.countP_cons_of_neg hy, List.countP_cons_of_neg hqy]; exact ih
theorem pairsOk_spec {bs : List (List Nat)} {l : List TE} (h : pairsOk bs l = true) {i j : Nat} {a b : TE} (hi : l[i]? = some a) (hj : l[j]? = some b) (hij : i < j) : i ∈ bs.getD j [] ∨ a.apart b = true := by
  have hjl := (List.getElem?_eq_some_iff.1 hj).1
  unfold pairsOk at h
  have h1 := List.all_eq_true.1 h j (List.mem_range.2 hjl)
  have h2 := List.all_eq_true.1 h1 i (List.mem_range.2 hij)
  simp only [hi, hj, Bool.or_eq_true] at h2
  rcases h2 with h2 | h2
  · exact .inl (by simpa using h2)
  · exact .inr h2
theorem apart_spec {a b : TE} (h : a.apart b = true) : (∀ i, a.dst = some i → i ∉ b.looks ∧ b.dst ≠ some i) ∧ (∀ i, b.dst = some i → i ∉ a.looks) ∧ (∀ i ∈ a.ids, i ∉ b.rd ∧ i ∉ b.ids) ∧ (∀ i ∈ b.ids, i ∉ a.rd) := by
  unfold TE.apart at h
  simp only [Bool.and_eq_true, List.all_eq_true] at h
  obtain ⟨⟨⟨⟨h1, h1'⟩, h2⟩, h3⟩, h4⟩ := h
  refine ⟨fun i hi => ⟨notIn_spec h1 hi, fun hb => notIn_spec h1' hi (by simp [hb])⟩, fun i hi => notIn_spec h2 hi, fun i hi => ?_, fun i hi => ?_⟩
  · have := h3 i hi
    exact ⟨by simpa using this.1, by simpa using this.2⟩
  · simpa using h4 i hi
theorem backOk_spec {ops : List Oper} (h : backOk ops = true) {i : Nat} {o : Oper} (ho : ops[i]? = some o) (e : Edge) (he : e ∈ o.after.toList) (hb : Region.binds .any e = true) : e.on < i := by
  unfold backOk at h
  have h1 := List.all_eq_true.1 h i (List.mem_range.2 (List.getElem?_eq_some_iff.1 ho).1)
  rw [ho] at h1
  have h2 := List.all_eq_true.1 h1 e he
  simpa [hb] using h2
/-- A REGION THAT DRAWS ITS ORDER: one run in the text's order, in a heap with room for the blocks that it makes. -/
theorem IW.dregion {bs : List (List Nat)} {iol : List IQ} (m : Nat) (h : DRun P bs iol T (H ++ List.replicate m none) H.length [] K) : IW P n (.dregion bs iol) T H K X := by
  intro c hc H0 s0 s a hN
  cases c with
  | region id os draw =>
    obtain ⟨l0, hl0, ⟨_, he⟩ | ⟨rfl, hback, hmix, he⟩⟩ := cCode_region hc
    · cases he
    · cases he
      obtain ⟨l, nids, hlen, hnlen, hpairs, hK, hge, hinc, hdid⟩ := drun_trace h
      simp only [List.nil_append] at hpairs
      have hoslen : iol.length = os.size := by simpa using (optAll_spec hl0).1
      generalize hHp : H ++ List.replicate m none = Hp at *
      have hget : ∀ (i : Nat) (o : Oper), os[i]? = some o → ∃ io, iol[i]? = some io ∧ cIO P n os o = some io := fun i o ho => (optAll_spec hl0).2 i o (by simpa using ho)
      refine wp_region_any hmix ?_
      have fin : ∀ (L : Array Bool) (s : St) (a : Act), L.size = os.size → (∀ j, j < os.size → L.getD j false = true) → Now n H0 s0 (fT (fun j => L.getD j false) l 0 T) (fH (fun j => L.getD j false) l 0 Hp) s a → Pst n H0 s0 K X .normal a s.w := by
        intro L s a hsz hall hN
        refine ⟨_, _, s, rfl, hN, ?_⟩
        have e1 : fT (fun j => L.getD j false) l 0 T = fT (fun _ => true) l 0 T := by
          funext x
          exact fT_congr rfl fun j t hj _ => by rw [Nat.zero_add]; exact hall j (by have := (List.getElem?_eq_some_iff.1 hj).1; omega)
        have e2 : fH (fun j => L.getD j false) l 0 Hp = fH (fun _ => true) l 0 Hp := by
          apply List.ext_getElem?
          intro b
          exact fH_congr rfl rfl fun j t hj _ => by rw [Nat.zero_add]; exact hall j (by have := (List.getElem?_eq_some_iff.1 hj).1; omega)
        rw [e1, e2]
        exact hK
      have step : ∀ (fuel : Nat), (∀ (L : Array Bool) (s : St) (a : Act), L.size = os.size →
          (List.range os.size).countP (fun j => !(L.getD j false)) ≤ fuel →
          (∀ k o, os.toList[k]? = some o → L.getD k false = true → ∀ e ∈ o.after.toList, Region.binds .any e = true → L.getD e.on false = true) →
          Now n H0 s0 (fT (fun j => L.getD j false) l 0 T) (fH (fun j => L.getD j false) l 0 Hp) s a →
          (∀ b lc, s.ρ b = some lc → b < H.length ∨ ∃ (j : Nat) (t : TE) (mj : Nat), L.getD j false = true ∧ l[j]? = some t ∧ nids[j]? = some mj ∧ t.nw = some mj ∧ b = mj) →
          wpAny P .any os (Pst n H0 s0 K X) fuel L a s.w) → ∀ (L : Array Bool) (s : St) (a : Act), L.size = os.size →
          (List.range os.size).countP (fun j => !(L.getD j false)) ≤ fuel + 1 →
          (∀ k o, os.toList[k]? = some o → L.getD k false = true → ∀ e ∈ o.after.toList, Region.binds .any e = true → L.getD e.on false = true) →
          Now n H0 s0 (fT (fun j => L.getD j false) l 0 T) (fH (fun j => L.getD j false) l 0 Hp) s a →
          (∀ b lc, s.ρ b = some lc → b < H.length ∨ ∃ (j : Nat) (t : TE) (mj : Nat), L.getD j false = true ∧ l[j]? = some t ∧ nids[j]? = some mj ∧ t.nw = some mj ∧ b = mj) →
          ∀ i ∈ Region.ready .any os L, wpOp P os (Pst n H0 s0 K X) i (wpAny P .any os (Pst n H0 s0 K X) fuel (L.setIfInBounds i true)) a s.w := by
        intro fuel ih L s a hsz hcnt hcl hN hρ i hi
        unfold Region.ready at hi
        rw [List.mem_filter] at hi
        obtain ⟨hir, hi⟩ := hi
        have hilt := List.mem_range.1 hir
        have ho : os[i]? = some os[i] := Array.getElem?_eq_getElem hilt
        generalize os[i] = o at ho
        rw [ho] at hi
        simp only [Option.map_some, Option.getD_some, Bool.and_eq_true, Bool.not_eq_true'] at hi
        obtain ⟨hLt, hpre⟩ := hi
        have hLi : L.getD i false = false := by
          have hil : i < L.size := by omega
          rw [Array.getD_eq_getD_getElem?, Array.getElem?_eq_getElem hil] at hLt ⊢
          exact hLt
        have hpre' : ∀ e ∈ o.after.toList, Region.binds .any e = true → L.getD e.on false = true := by
          rw [← Array.all_toList, List.all_eq_true] at hpre
          intro e he hb
          have := hpre e he
          simpa [hb] using this
        obtain ⟨io, hio, hcio⟩ := hget i o ho
        obtain ⟨c1, c2, c3, c4⟩ := cIO_spec hcio
        have hte : l[i]? = some (l[i]'(by omega)) := List.getElem?_eq_getElem (by omega)
        generalize l[i]'(by omega) = te at hte
        have hmi : nids[i]? = some (nids[i]'(by omega)) := List.getElem?_eq_getElem (by omega)
        generalize nids[i]'(by omega) = mi at hmi
        have hd := hdid i io te mi hio hte hmi
        have hclo := befs_closed (ops := os.toList) (S := fun j => L.getD j false) hcl
        have agree : ∀ (j : Nat) (tj : TE), l[j]? = some tj → L.getD j false ≠ low i j → (j < i ∧ tj.apart te = true) ∨ (i < j ∧ te.apart tj = true) := by
          intro j tj hj hne
          rcases Nat.lt_trichotomy j i with hlt | rfl | hgt
          · have hSj : L.getD j false = false := by
              cases hb : L.getD j false with
              | false => rfl
              | true => rw [hb] at hne; simp [low, hlt] at hne
            rcases pairsOk_spec hpairs hj hte hlt with hb | hb
            · have := hclo i o (by simpa using ho) hpre' j hb
              rw [hSj] at this; cases this
            · exact .inl ⟨hlt, hb⟩
          · rw [hLi] at hne
            simp [low] at hne
          · have hSj : L.getD j false = true := by
              cases hb : L.getD j false with
              | true => rfl
              | false => rw [hb] at hne; simp [low] at hne; omega
            rcases pairsOk_spec hpairs hte hj hgt with hb | hb
            · have hjs : j < os.size := by have := (List.getElem?_eq_some_iff.1 hj).1; omega
              have hoj : os.toList[j]? = some os[j] := by simp [hjs]
              have := hclo j _ hoj (hcl j _ hoj hSj) i hb
              simp only [hLi] at this
              cases this
            · exact .inr ⟨hgt, hb⟩
        have hTa : ∀ x ∈ te.looks, fT (fun j => L.getD j false) l 0 T x = fT (low i) l 0 T x := by
          intro x hx
          refine fT_congr rfl fun j tj hj hdj => ?_
          rw [Nat.zero_add]
          by_cases e : L.getD j false = low i j
          · exact e
          · rcases agree j tj hj e with ⟨_, h⟩ | ⟨_, h⟩
            · exact absurd hx ((apart_spec h).1 x hdj).1
            · exact absurd hx ((apart_spec h).2.1 x hdj)
        have hHa : ∀ b, b ∈ te.rd ∨ b ∈ te.ids → (fH (fun j => L.getD j false) l 0 Hp)[b]? = (fH (low i) l 0 Hp)[b]? := by
          intro b hb
          refine fH_congr rfl rfl fun j tj hj hbj => ?_
          rw [Nat.zero_add]
          by_cases e : L.getD j false = low i j
          · exact e
          · rcases agree j tj hj e with ⟨_, h⟩ | ⟨_, h⟩
            · have := (apart_spec h).2.2.1 b hbj
              rcases hb with hb | hb
              · exact absurd hb this.1
              · exact absurd hb this.2
            · rcases hb with hb | hb
              · exact absurd hb ((apart_spec h).2.2.2 b hbj)
              · exact absurd hbj ((apart_spec h).2.2.1 b hb).2
        have hfree : te.nw.isSome = true → s.ρ mi = none := by
          intro hs
          cases hr : s.ρ mi with
          | none => rfl
          | some lc =>
            exfalso
            have hge' := hge i mi hmi
            rcases hρ mi lc hr with h | ⟨j, t, mj, hSj, hj, hmj, hnw, he⟩
            · omega
            · subst he
              rcases Nat.lt_trichotomy j i with hlt | rfl | hgt
              · have := hinc j i mi mi t hmj hmi hlt hj (by rw [hnw]; rfl); omega
              · rw [hLi] at hSj; cases hSj
              · have := hinc i j mi mi te hmi hmj hgt hte hs; omega
        have hS' : (fun j => (L.setIfInBounds i true).getD j false) = plus (fun j => L.getD j false) (0 + i) := by
          funext j
          simp only [plus, Nat.zero_add]
          by_cases e : j = i
          · subst e
            have : j < L.size := by omega
            simp [Array.getD_eq_getD_getElem?, Array.getElem?_setIfInBounds, this]
          · rw [Array.getD_eq_getD_getElem?, Array.getElem?_setIfInBounds_ne (fun h => e h.symm), ← Array.getD_eq_getD_getElem?]
            simp [e]
        have cont : ∀ v s1, Inv (upW (fH (fun j => L.getD j false) l 0 Hp) te.ws) s1 → Ext (fH (fun j => L.getD j false) l 0 Hp) s (upW (fH (fun j => L.getD j false) l 0 Hp) te.ws) s1 → Rep s1 te.d v → (∀ b, te.nw ≠ some b → s1.ρ b = s.ρ b) →
            wpAny P .any os (Pst n H0 s0 K X) fuel (L.setIfInBounds i true) (a.put o.dst v) s1.w := by
          intro v s1 I1 E1 hrep hρ1
          refine ih _ s1 _ (by simpa using hsz) ?_ ?_ ?_ ?_
          · have hlt : (List.range os.size).countP (fun j => !((L.setIfInBounds i true).getD j false)) < (List.range os.size).countP (fun j => !(L.getD j false)) := by
              refine countP_lt (fun j _ hj => ?_) ⟨i, hir, by rw [hLi]; rfl, ?_⟩
              · have := congrFun hS' j
                rw [this] at hj
                simp only [plus, Bool.not_or, Bool.and_eq_true] at hj
                exact hj.1
              · have := congrFun hS' i
                rw [this]
                simp [plus]
            omega
          · intro k ok hk hSk e he hb
            have up : ∀ j, L.getD j false = true → (L.setIfInBounds i true).getD j false = true := fun j hj => by
              have := congrFun hS' j
              rw [this]
              simp only [plus, hj, Bool.true_or]
            by_cases e1 : k = i
            · subst e1
              have : ok = o := by
                have hk' : os[k]? = some ok := by simpa using hk
                rw [ho] at hk'
                exact (Option.some.inj hk').symm
              subst this
              exact up _ (hpre' e he hb)
            · have hSk' : L.getD k false = true := by
                have := congrFun hS' k
                rw [this] at hSk
                simpa [plus, e1] using hSk
              exact up _ (hcl k ok hk hSk' e he hb)
          · rw [hS']
            have hN1 := hN.step I1 E1 hrep c3
            have eT : fT (plus (fun j => L.getD j false) (0 + i)) l 0 T = put (fT (fun j => L.getD j false) l 0 T) o.dst te.d := by
              funext x
              rw [fT_plus hte fun j t' hij hj hdd hn => ?_]
              · rw [hd.1, c2]
              · rw [Nat.zero_add]
                cases hb : L.getD j false with
                | false => rfl
                | true =>
                  exfalso
                  rcases agree j t' hj (by rw [hb]; simp [low]; omega) with ⟨h, _⟩ | ⟨_, h⟩
                  · omega
                  · cases hdst : te.dst with
                    | none => exact hn hdst
                    | some x => exact ((apart_spec h).1 x hdst).2 (hdd.trans hdst)
            have eH : fH (plus (fun j => L.getD j false) (0 + i)) l 0 Hp = upW (fH (fun j => L.getD j false) l 0 Hp) te.ws := by
              apply List.ext_getElem?
              intro b
              rw [fH_plus hte fun j t' hij hj hb1 hb2 => ?_]
              rw [Nat.zero_add]
              cases hb : L.getD j false with
              | false => rfl
              | true =>
                exfalso
                rcases agree j t' hj (by rw [hb]; simp [low]; omega) with ⟨h, _⟩ | ⟨_, h⟩
                · omega
                · exact ((apart_spec h).2.2.1 b hb2).2 hb1
            rw [eT, eH]
            exact hN1
          · intro b lc hb
            by_cases e : te.nw = some b
            · right
              have hnw := hd.2.1 (by rw [e]; rfl)
              have hbm : b = mi := by rw [e] at hnw; exact Option.some.inj hnw.1
              refine ⟨i, te, mi, ?_, hte, hmi, hnw.1, hbm⟩
              have := congrFun hS' i
              rw [this]; simp [plus]
            · rw [hρ1 b e] at hb
              rcases hρ b lc hb with h | ⟨j, t, mj, h1, h2⟩
              · exact .inl h
              · refine .inr ⟨j, t, mj, ?_, h2⟩
                have := congrFun hS' j
                rw [this]; simp only [plus, h1, Bool.true_or]
        have run : (∀ x ∈ io.op.looks, x ∈ te.looks) → DS P io.op (fT (low i) l 0 T) (fH (low i) l 0 Hp) mi te.d te.ws te.rd te.nw → o.wp P a s.w (wpAny P .any os (Pst n H0 s0 K X) fuel (L.setIfInBounds i true)) (Pst n H0 s0 K X) := by
          intro hlk hds
          have hds' : DS P io.op (fT (fun j => L.getD j false) l 0 T) (fH (fun j => L.getD j false) l 0 Hp) mi te.d te.ws te.rd te.nw :=
            hds.loc (fun x hx => (hTa x (hlk x hx)).symm) (fun b hb => (hHa b (.inl hb)).symm) fun hs => by
              obtain ⟨_, h2, h3⟩ := hds.nw_spec hs
              rw [hHa mi (.inr h2)]; exact h3
          exact ds_sound c1 hds' hN.inv hN.rel hfree fun v s1 I1 E1 hr1 hρ1 => cont v s1 I1 E1 hr1 hρ1
        unfold wpOp
        rw [ho]
        rcases hd.2.2 with ⟨hg, hlk, hds⟩ | ⟨g, b, v, hg, hv, hgl, hcase⟩
        · rcases c4 with ⟨g1, _⟩ | ⟨_, _, _, _, g2, _⟩
          · simp only [wanted_none g1, if_true]
            exact .inl (run (fun x hx => by rw [hlk]; exact hx) hds)
          · rw [hg] at g2; cases g2
        · rcases c4 with ⟨_, g2⟩ | ⟨j, b', t, g1, g2, g3⟩
          · rw [hg] at g2; cases g2
          · rw [hg] at g2
            cases g2
            have hv' : fT (fun j => L.getD j false) l 0 T g = .bool v := (hTa g hgl).trans hv
            simp only [wanted_some g3 (hN.rel g) hv' (bool_size hN.rel hv') o g1]
            rcases hcase with ⟨rfl, hlk, hds⟩ | ⟨hne, h1, h2, h3⟩
            · simp only [beq_self_eq_true, if_true]
              exact .inl (run (fun x hx => by rw [hlk]; simp [hx]) hds)
            · have : (v == b) = false := by simpa using hne
              simp only [this, Bool.false_eq_true, if_false]
              refine cont undef s ?_ ?_ ?_ fun _ _ => rfl
              · rw [h2]; exact hN.inv
              · rw [h2]; exact .refl
              · rw [h1]; exact rep_undef
      have key : ∀ (fuel : Nat) (L : Array Bool) (s : St) (a : Act), L.size = os.size →
          (List.range os.size).countP (fun j => !(L.getD j false)) ≤ fuel →
          (∀ k o, os.toList[k]? = some o → L.getD k false = true → ∀ e ∈ o.after.toList, Region.binds .any e = true → L.getD e.on false = true) →
          Now n H0 s0 (fT (fun j => L.getD j false) l 0 T) (fH (fun j => L.getD j false) l 0 Hp) s a →
          (∀ b lc, s.ρ b = some lc → b < H.length ∨ ∃ (j : Nat) (t : TE) (mj : Nat), L.getD j false = true ∧ l[j]? = some t ∧ nids[j]? = some mj ∧ t.nw = some mj ∧ b = mj) →
          wpAny P .any os (Pst n H0 s0 K X) fuel L a s.w := by
        intro fuel
        induction fuel with
        | zero =>
          intro L s a hsz hcnt hcl hN hρ
          have hall : ∀ j, j < os.size → L.getD j false = true := fun j hj => by
            have h0 : (List.range os.size).countP (fun j => !(L.getD j false)) = 0 := by omega
            rw [List.countP_eq_zero] at h0
            have := h0 j (List.mem_range.2 hj)
            simpa using this
          refine ⟨?_, fin L s a hsz hall hN⟩
          unfold Region.ready
          rw [List.filter_eq_nil_iff]
          intro j hj
          have hjl : j < L.size := by rw [hsz]; exact List.mem_range.1 hj
          have := hall j (List.mem_range.1 hj)
          have h1 : L.getD j true = true := by
            rw [Array.getD_eq_getD_getElem?, Array.getElem?_eq_getElem hjl] at this ⊢
            exact this
          simp [h1]
        | succ fuel ih =>
          intro L s a hsz hcnt hcl hN hρ
          refine ⟨fun hready => ?_, fun i hi => ?_⟩
          · refine fin L s a hsz (fun j hj => ?_) hN
            -- the first that is not done is ready
            induction j using Nat.strongRecOn with
            | _ j ihj =>
              cases hL : L.getD j false with
              | true => rfl
              | false =>
                exfalso
                have hjs : os[j]? = some os[j] := Array.getElem?_eq_getElem hj
                have : j ∈ Region.ready .any os L := by
                  unfold Region.ready
                  rw [List.mem_filter]
                  refine ⟨List.mem_range.2 hj, ?_⟩
                  have h1 : L.getD j true = false := by
                    have hjl : j < L.size := by omega
                    rw [Array.getD_eq_getD_getElem?, Array.getElem?_eq_getElem hjl] at hL ⊢
                    exact hL
                  simp only [h1, hjs, Option.map_some, Option.getD_some, Bool.not_false, Bool.true_and]
                  rw [← Array.all_toList, List.all_eq_true]
                  intro e he
                  simp only [Bool.or_eq_true, Bool.not_eq_true']
                  by_cases hb : Region.binds .any e = true
                  · right
                    have hon := backOk_spec hback (i := j) (o := os[j]) (by simp [hj]) e he hb
                    exact ihj e.on hon (by omega)
                  · left; simpa using hb
                rw [hready] at this
                cases this
          · exact step fuel ih L s a hsz hcnt hcl hN hρ i hi
      have hstart : ∀ j, (Array.replicate os.size false).getD j false = false := fun j => by
        rw [Array.getD_eq_getD_getElem?, Array.getElem?_replicate]
        split <;> rfl
      have e1 : (fun j => (Array.replicate os.size false).getD j false) = fun _ => false := funext hstart
      have e2 : fT (fun _ => false) l 0 T = T := by
        have gen : ∀ (l : List TE) (k : Nat) (T : Tm), fT (fun _ => false) l k T = T := by
          intro l
          induction l with
          | nil => intro k T; rfl
          | cons t l ih => intro k T; simp only [fT, Bool.false_eq_true, if_false]; exact ih _ _
        exact gen l 0 T
      have e3 : fH (fun _ => false) l 0 Hp = Hp := by
        have gen : ∀ (l : List TE) (k : Nat) (H : Heap), fH (fun _ => false) l k H = H := by
          intro l
          induction l with
          | nil => intro k H; rfl
          | cons t l ih => intro k H; simp only [fH, Bool.false_eq_true, if_false]; exact ih _ _
        exact gen l 0 Hp
      refine key os.size (Array.replicate os.size false) s.drew a (by simp) ?_ (fun k o _ hk => ?_) ?_ fun b lc hb => .inl (hN.inv.dom b lc hb)
      · have := List.countP_le_length (p := fun j => !((Array.replicate os.size false).getD j false)) (l := List.range os.size)
        simpa using this
      · rw [hstart] at hk; cases hk
      · rw [e1, e2, e3, ← hHp]
        refine ⟨hN.inv0, hN.ext.trans hN.inv0 (Ext.of_more (xs := List.replicate m none) hN.inv Ext.drew), (hN.inv.more _).drew, hN.defers, hN.size, hN.rel.mono (drew_mono s)⟩
  | _ => simp only [cCode] at hc; (repeat' (split at hc)) <;> first | cases hc | (simp only [Option.map_eq_some_iff] at hc; obtain ⟨_, _, hc⟩ := hc; cases hc)
end
end Go.Proofs.Ytlagfebklcaaeaa

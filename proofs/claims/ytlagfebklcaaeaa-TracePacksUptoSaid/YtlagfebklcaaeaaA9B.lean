/- A value-level machine over the model, part 9b: '==' of structs and arrays. -/
import Derived.Test.YtlagfebklcaaeaaA9
import Derived.Laws.StructEq
import Derived.ChangeKeysEq
namespace Go.Proofs.Ytlagfebklcaaeaa
set_option linter.all false
section
variable {P : Program} {s : St}

theorem eqCells_len : ∀ {ks : List LK} {xs ys : List D} {r : Bool}, eqCells ks xs ys = some r → xs.length = ks.length ∧ ys.length = ks.length
  | [], [], [], _, _ => ⟨rfl, rfl⟩
  | [], _ :: _, _, _, h => by simp [eqCells] at h
  | [], [], _ :: _, _, h => by simp [eqCells] at h
  | k :: ks, [], _, _, h => by simp [eqCells] at h
  | k :: ks, _ :: _, [], _, h => by simp [eqCells] at h
  | k :: ks, x :: xs, y :: ys, r, h => by
    simp only [eqCells] at h
    split at h
    · rename_i a b h1 h2
      obtain ⟨q1, q2⟩ := eqCells_len h2
      simp [q1, q2]
    · cases h
theorem eqCells_split : ∀ {ks ls : List LK} {xs ys : List D} {r : Bool}, eqCells (ks ++ ls) xs ys = some r →
    ∃ a b, eqCells ks (xs.take ks.length) (ys.take ks.length) = some a ∧ eqCells ls (xs.drop ks.length) (ys.drop ks.length) = some b ∧ r = (a && b)
  | [], ls, xs, ys, r, h => ⟨true, r, by simp [eqCells], by simpa using h, by simp⟩
  | k :: ks, ls, [], _, _, h => by simp [eqCells] at h
  | k :: ks, ls, _ :: _, [], _, h => by simp [eqCells] at h
  | k :: ks, ls, x :: xs, y :: ys, r, h => by
    simp only [List.cons_append, eqCells] at h
    split at h
    · rename_i a b h1 h2
      cases h
      obtain ⟨c, d, h3, h4, rfl⟩ := eqCells_split h2
      refine ⟨a && c, d, ?_, by simpa using h4, by simp [Bool.and_assoc]⟩
      simp only [List.length_cons, List.take_succ_cons, eqCells, h1, h3]
    · cases h
/-- The value that cells make up. -/
def ofCells (sz : Option Nat) (c : List D) : Option D := takeD c 0 sz
def EqAtT (P : Program) (d : Nat) (t : TypeId) (l : List LK) : Prop :=
  ∀ (s : St) (sz : Option Nat) (xs ys : List D) (x y : D) (v u : Value) (r : Bool), shapeT P t = some sz → eqCells l xs ys = some r → ofCells sz xs = some x → ofCells sz ys = some y → Rep s x v → Rep s y u →
    (Op.equalIn d t v u).run P s.w = .ok r s.w
theorem takeD_take {c : List D} {off n : Nat} {sz : Option Nat} {d : D} (h : takeD c off sz = some d) (hn : sz.getD 1 ≤ n) : takeD ((c.drop off).take n) 0 sz = some d := by
  cases sz with
  | none =>
    simp only [takeD] at h ⊢
    rw [List.getElem?_take, if_pos (by simp at hn; omega), List.getElem?_drop]
    simpa using h
  | some m =>
    simp only [takeD] at h ⊢
    split at h
    · cases h
      simp at hn
      rw [if_pos (by simp; omega), List.drop_zero, List.take_take, Nat.min_eq_left hn]
    · cases h
theorem leaf_len {d : Nat} {t : TypeId} {l : List LK} (h : leafT P d t = some l) : ∃ sz, shapeT P t = some sz ∧ sz.getD 1 = l.length := by
  cases d with
  | zero => cases h
  | succ d =>
    simp only [leafT] at h
    split at h
    · split at h
      · rename_i hs; cases h; exact ⟨none, hs, rfl⟩
      · cases h
    · split at h
      · rename_i hs; cases h; exact ⟨none, hs, rfl⟩
      · cases h
    · split at h
      · rename_i hs; cases h; exact ⟨none, hs, rfl⟩
      · cases h
    · split at h
      · cases h
      · split at h
        · split at h
          · rename_i hs; cases h; exact ⟨_, hs, rfl⟩
          · cases h
        · cases h
    · split at h
      · split at h
        · rename_i hs; cases h
          refine ⟨_, hs.2, ?_⟩
          simp
        · cases h
      · cases h
    · cases h
theorem takeD_some {c : List D} {off : Nat} {sz : Option Nat} (h : off + sz.getD 1 ≤ c.length) : ∃ d, takeD c off sz = some d := by
  cases sz with
  | none => exact ⟨c[off]'(by simp at h; omega), by simp [takeD]⟩
  | some m => exact ⟨_, by simp only [takeD]; rw [if_pos (by simpa using h)]⟩
theorem eqFs_run {d D' : Nat} (ih : ∀ t l, leafT P d t = some l → EqAtT P D' t l) {vs us : Array Value} {xs ys : List D} (hx : RepL s xs vs.toList) (hy : RepL s ys us.toList) (hx1 : ∀ u ∈ vs.toList, u.oneCell' = true) (hy1 : ∀ u ∈ us.toList, u.oneCell' = true) :
    ∀ (fs : List Field) (acc l : List LK), leafFs (leafT P d) fs acc = some l → ∀ (r : Bool), eqCells (l.drop acc.length) (xs.drop acc.length) (ys.drop acc.length) = some r → xs.length = l.length → ys.length = l.length →
      (Op.eqFields D' vs us fs).run P s.w = .ok r s.w ∧ ∃ l', l = acc ++ l'
  | [], acc, l, h, r, hr, _, _ => by
    simp only [leafFs, Option.some.injEq] at h
    subst h
    simp only [List.drop_length] at hr
    refine ⟨?_, [], by simp⟩
    have := eqCells_len hr
    match xs.drop acc.length, ys.drop acc.length, hr, this with
    | [], [], hr, _ => cases hr; rfl
  | f :: fs, acc, l, h, r, hr, hxl, hyl => by
    simp only [leafFs] at h
    split at h
    · cases h
    · rename_i hc
      simp only [Bool.or_eq_true, beq_iff_eq, bne_iff_ne, not_or, Decidable.not_not] at hc
      obtain ⟨hname, hoff⟩ := hc
      split at h
      · rename_i k hk
        obtain ⟨sz, hsz, hlen⟩ := leaf_len hk
        have hsub : ∃ l', l = (acc ++ k) ++ l' := by
          have gen : ∀ (fs : List Field) (acc l : List LK), leafFs (leafT P d) fs acc = some l → ∃ l', l = acc ++ l' := by
            intro fs
            induction fs with
            | nil => intro acc l h; simp only [leafFs, Option.some.injEq] at h; exact ⟨[], by simp [h]⟩
            | cons f fs ihf =>
              intro acc l h
              simp only [leafFs] at h
              split at h
              · cases h
              · split at h
                · obtain ⟨l', hl'⟩ := ihf _ _ h
                  exact ⟨_, by rw [hl', List.append_assoc]⟩
                · cases h
          exact gen _ _ _ h
        obtain ⟨l', rfl⟩ := hsub
        have hd : (acc ++ k ++ l').drop acc.length = k ++ l' := by rw [List.append_assoc, List.drop_left]
        rw [hd] at hr
        obtain ⟨a, b, h1, h2, rfl⟩ := eqCells_split hr
        rw [List.drop_drop] at h2
        have hrest := eqFs_run ih hx hy hx1 hy1 fs (acc ++ k) (acc ++ k ++ l') h b (by
          have e1 : (acc ++ k ++ l').drop (acc ++ k).length = l' := List.drop_left
          rw [e1, List.length_append]
          rw [List.drop_drop] at h2
          exact h2) hxl hyl
        have hle : acc.length + k.length ≤ xs.length := by rw [hxl]; simp
        have hle' : acc.length + k.length ≤ ys.length := by rw [hyl]; simp
        obtain ⟨dx, hdx⟩ := takeD_some (c := xs) (off := acc.length) (sz := sz) (by omega)
        obtain ⟨dy, hdy⟩ := takeD_some (c := ys) (off := acc.length) (sz := sz) (by omega)
        obtain ⟨p1, q1, q2⟩ := part_rep (P := P) hsz hx hx1 hdx
        obtain ⟨p2, q3, q4⟩ := part_rep (P := P) hsz hy hy1 hdy
        have he := ih f.type k hk s sz _ _ dx dy p1 p2 a hsz h1 (takeD_take hdx (by omega)) (takeD_take hdy (by omega)) q2 q4
        refine ⟨?_, k ++ l', by rw [List.append_assoc]⟩
        simp only [Op.eqFields, if_pos (show f.name ≠ "_" from hname), hoff, Sem.run_bind, q1, q3, he, Result.andThen_ok]
        cases a
        · simp
        · simpa using hrest.1
      · cases h
theorem eqIs_run {d D' : Nat} {e : TypeId} {k : List LK} (hk : leafT P d e = some k) (hm : szT P e = some k.length) (ih : EqAtT P D' e k) {vs us : Array Value} {xs ys : List D} (hx : RepL s xs vs.toList) (hy : RepL s ys us.toList) (hx1 : ∀ u ∈ vs.toList, u.oneCell' = true) (hy1 : ∀ u ∈ us.toList, u.oneCell' = true) :
    ∀ (n i : Nat) (r : Bool), eqCells (List.replicate n k).flatten (xs.drop (i * k.length)) (ys.drop (i * k.length)) = some r → (Op.eqItems D' e (P.cellsOf e) vs us (List.range' i n)).run P s.w = .ok r s.w
  | 0, i, r, hr => by
    simp only [List.replicate_zero, List.flatten_nil] at hr
    have := eqCells_len hr
    match xs.drop (i * k.length), ys.drop (i * k.length), hr, this with
    | [], [], hr, _ => cases hr; rfl
  | n + 1, i, r, hr => by
    have hc : P.cellsOf e = k.length := by
      simp only [szT, Option.map_eq_some_iff] at hm
      obtain ⟨inf, hi, hz⟩ := hm
      simp [Program.cellsOf, hi, hz]
    obtain ⟨sz, hsz, hlen⟩ := leaf_len hk
    rw [List.replicate_succ, List.flatten_cons] at hr
    have hlens := eqCells_len hr
    obtain ⟨a, b, h1, h2, rfl⟩ := eqCells_split hr
    rw [List.drop_drop, List.drop_drop] at h2
    have hrest := eqIs_run hk hm ih hx hy hx1 hy1 n (i + 1) b (by rwa [Nat.add_mul, Nat.one_mul])
    have hle : i * k.length + k.length ≤ xs.length := by
      by_cases h0 : k.length = 0
      · simp [h0]
      · have := hlens.1
        rw [List.length_drop, List.length_append] at this
        omega
    have hle' : i * k.length + k.length ≤ ys.length := by
      by_cases h0 : k.length = 0
      · simp [h0]
      · have := hlens.2
        rw [List.length_drop, List.length_append] at this
        omega
    obtain ⟨dx, hdx⟩ := takeD_some (c := xs) (off := i * k.length) (sz := sz) (by omega)
    obtain ⟨dy, hdy⟩ := takeD_some (c := ys) (off := i * k.length) (sz := sz) (by omega)
    obtain ⟨p1, q1, q2⟩ := part_rep (P := P) hsz hx hx1 hdx
    obtain ⟨p2, q3, q4⟩ := part_rep (P := P) hsz hy hy1 hdy
    have he := ih s sz _ _ dx dy p1 p2 a hsz h1 (takeD_take hdx (by omega)) (takeD_take hdy (by omega)) q2 q4
    rw [List.range'_succ]
    simp only [Op.eqItems, hc, Sem.run_bind, q1, q3, he, Result.andThen_ok]
    cases a
    · simp
    · rw [hc] at hrest
      simpa using hrest
theorem eqIn_rep : ∀ (d : Nat) (t : TypeId) (l : List LK), leafT P d t = some l → ∀ k, EqAtT P (d + k) t l
  | 0, _, _, h, _ => by cases h
  | d + 1, t, l, h, k => by
    intro s sz xs ys x y v u r hsz hr hx hy rx ry
    have ih := fun t l h => eqIn_rep d t l h k
    simp only [leafT] at h
    have hk1 : d + 1 + k = d + k + 1 := by omega
    rw [hk1]
    have scalar : ∀ (lk : LK), l = [lk] → shapeT P t = some none → ∃ x0 y0, xs = [x0] ∧ ys = [y0] ∧ x = x0 ∧ y = y0 ∧ eqCell lk x0 y0 = some r := by
      intro lk hl hs
      rw [hs] at hsz
      cases hsz
      subst hl
      have hlen := eqCells_len hr
      match xs, ys, hlen with
      | [x0], [y0], _ =>
        simp only [ofCells, takeD] at hx hy
        simp at hx hy
        refine ⟨x0, y0, rfl, rfl, hx.symm, hy.symm, ?_⟩
        simp only [eqCells] at hr
        split at hr
        · rename_i a b h1 h2
          cases h2
          cases hr
          rw [h1]; simp
        · cases hr
    split at h
    · rename_i hu
      split at h
      · rename_i hs
        cases h
        obtain ⟨x0, y0, _, _, e1, e2, he⟩ := scalar .b rfl hs
        subst e1 e2
        cases x <;> cases y <;> simp only [eqCell] at he <;> first
          | (cases he; done)
          | (simp only [Rep] at rx ry; subst rx ry; cases he; exact run_equalIn_bool s.w _ t _ _ hu)
      · cases h
    · rename_i kk hu
      split at h
      · rename_i hs
        cases h
        obtain ⟨x0, y0, _, _, e1, e2, he⟩ := scalar .i rfl hs
        subst e1 e2
        cases x <;> cases y <;> simp only [eqCell] at he <;> first
          | (cases he; done)
          | (simp only [Rep] at rx ry; subst rx ry
             split at he
             · rename_i hkk; subst hkk
               cases he
               exact run_equalIn_int s.w _ t _ _ _ _ hu
             · cases he)
      · cases h
    · rename_i hu
      split at h
      · rename_i hs
        cases h
        obtain ⟨x0, y0, _, _, e1, e2, he⟩ := scalar .s rfl hs
        subst e1 e2
        cases x <;> cases y <;> simp only [eqCell] at he <;> first
          | (cases he; done)
          | (simp only [Rep] at rx ry; subst rx ry; cases he; exact run_equalIn_string s.w _ t _ _ hu)
      · cases h
    · rename_i fs hu
      split at h
      · cases h
      · rename_i hst
        split at h
        · rename_i l' hl'
          split at h
          · rename_i hs
            cases h
            rw [hs] at hsz
            cases hsz
            have hlen := eqCells_len hr
            simp only [ofCells, takeD, Nat.zero_add] at hx hy
            rw [if_pos (by omega)] at hx hy
            cases hx
            cases hy
            simp only [List.drop_zero] at rx ry
            rw [List.take_of_length_le (by omega)] at rx ry
            simp only [Rep] at rx ry
            obtain ⟨vs, rfl, v1, v2⟩ := rx
            obtain ⟨us, rfl, u1, u2⟩ := ry
            have hf : P.fieldsOf t = fs := by simp [Program.fieldsOf, hu]
            rw [run_equalIn_struct (P := P) s.w (d + k) t vs us (by rw [hf]; exact hu) (by simpa using hst), hf]
            exact (eqFs_run ih v2 u2 v1 u1 fs.toList [] _ hl' r (by simpa using hr) (by omega) (by omega)).1
          · cases h
        · cases h
    · rename_i n e hu
      split at h
      · rename_i l' hl'
        split at h
        · rename_i hs
          cases h
          obtain ⟨hs1, hs2⟩ := hs
          rw [hs2] at hsz
          cases hsz
          have hlen := eqCells_len hr
          have hll : (List.replicate n l').flatten.length = n * l'.length := by simp
          simp only [ofCells, takeD, Nat.zero_add] at hx hy
          rw [if_pos (by omega)] at hx hy
          cases hx
          cases hy
          simp only [List.drop_zero] at rx ry
          rw [List.take_of_length_le (by omega)] at rx ry
          simp only [Rep] at rx ry
          obtain ⟨vs, rfl, v1, v2⟩ := rx
          obtain ⟨us, rfl, u1, u2⟩ := ry
          obtain ⟨inf, hi, hz⟩ : ∃ inf, P.info? e = some inf ∧ inf.size = l'.length := by simpa [szT] using hs1
          rw [run_equalIn_array (P := P) s.w (d + k) vs us hu hi, List.range_eq_range']
          exact eqIs_run hl' hs1 (ih e _ hl') v2 u2 v1 u1 n 0 r (by simpa using hr)
        · cases h
      · cases h
    · cases h
theorem eqa_rep {op : BinOp} {neq : Bool} {t : TypeId} {ks : List LK} {x y : List D} {v u : Value} {r : Bool} (ht : aggEq P t = some ks) (hx : Rep s (.agg x) v) (hy : Rep s (.agg y) u) (hr : eqCells ks x y = some r) (ho : (op = .eql ∧ neq = false) ∨ (op = .neq ∧ neq = true)) (X Y : Operand) :
    ∃ q, (do eqGuard op t X Y v u; binOp op t v u : Sem Value).run P s.w = .ok q s.w ∧ Rep s (.bool (if neq then !r else r)) q := by
  unfold aggEq at ht
  split at ht
  · rename_i hag
    split at ht
    · cases ht
    · rename_i hg
      have hg' : P.eqGuardType P.depth t = false := by simpa using hg
      obtain ⟨sz, hsz, hlen⟩ := leaf_len ht
      have hl := eqCells_len hr
      have hs : sz = some x.length := by
        unfold shapeT at hsz
        rw [hag] at hsz
        split at hsz
        · cases hsz
          simp at hlen
          rw [hl.1, hlen]
        · rename_i h _; cases h
        · cases hsz
      subst hs
      have hyl : y.length = x.length := by omega
      have hq := eqIn_rep 8 t ks ht 9992 s _ x y (.agg x) (.agg y) v u r hsz hr (by simp [ofCells, takeD]) (by simp [ofCells, takeD, ← hyl]) hx hy
      simp only [Rep] at hx hy
      obtain ⟨vs, rfl, _, _⟩ := hx
      obtain ⟨us, rfl, _, _⟩ := hy
      rcases ho with ⟨rfl, rfl⟩ | ⟨rfl, rfl⟩
      · refine ⟨.bool r, ?_, by simp [Rep]⟩
        simp only [Sem.run_bind, run_eqGuard_agg s.w .eql t X Y vs us hg', Result.andThen_ok, run_eql_struct, hq]
      · refine ⟨.bool !r, ?_, by simp [Rep]⟩
        simp only [Sem.run_bind, run_eqGuard_agg s.w .neq t X Y vs us hg', Result.andThen_ok, run_neq_struct, hq]
  · cases ht
end
end Go.Proofs.Ytlagfebklcaaeaa

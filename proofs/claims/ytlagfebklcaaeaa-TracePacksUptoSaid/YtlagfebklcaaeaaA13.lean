/- A value-level machine over the model, part 13: copy; every store, append and copy is sound. -/
import Derived.Test.YtlagfebklcaaeaaA12
namespace Go.Proofs.Ytlagfebklcaaeaa
set_option linter.all false
section
variable {P : Program} {Hf H : Heap} {s : St} {nid : Nat} {d : D} {nb : Option Blk} {T : Tm} {a : Act}

theorem flat_take {α : Type} {sz : Nat} : ∀ {l : List (List α)} (n : Nat), (∀ x ∈ l, x.length = sz) → n ≤ l.length → (l.take n).flatten = l.flatten.take (n * sz)
  | l, 0, _, _ => by simp
  | [], n + 1, _, h => by simp at h
  | x :: l, n + 1, hl, h => by
    have hx := hl x (by simp)
    rw [List.take_succ_cons, List.flatten_cons, List.flatten_cons, flat_take n (fun y hy => hl y (by simp [hy])) (by simpa using h), show (n + 1) * sz = x.length + n * sz from by rw [hx, Nat.add_mul]; omega, List.take_length_add_append]
theorem cpy_rep {t u e : TypeId} {sz : Nat} {x y : D} {v v2 : Value} (ty : TypeId) (I : Inv H s) (ht : sliceT P t = some e) (hsz : szT P e = some sz) (hx : Rep s x v) (hy : Rep s y v2)
    {X Y : Opd} (hX : X.ev T = x) (hY : Y.ev T = y) {md : Option (Nat × Option Blk)} (hs : ecore (.cpy sz X Y) T H nid = some (d, md, nb)) :
    nb = none ∧ ∃ r s1, (Builtin.copy_ #[t, u] ty #[v, v2]).run P s.w = .ok r s1.w ∧ Inv (modH H md) s1 ∧ Ext H s (modH H md) s1 ∧ Rep s1 d r ∧ s1.ρ = s.ρ := by
  simp only [ecore, hX, hY, Option.bind_eq_some_iff] at hs
  obtain ⟨news, hnews, hs⟩ := hs
  obtain ⟨a2, c2, rfl, vss, w1, w2, w3, w4⟩ := news_rep I hy hnews
  split at hs
  · rename_i b o n full
    obtain ⟨blk, hb, hs⟩ := Option.bind_eq_some_iff.1 hs
    split at hs
    · rename_i hcond
      obtain ⟨q1, q2, q3⟩ := hcond
      cases hs
      have hbs := blkOf_some hb
      simp only [Rep] at hx
      obtain ⟨l, cap, hρ, hcap, _, hx⟩ := hx
      have hbr := I.rel b blk l hbs hρ
      have hlsz : l.sz = sz := hbr.size.trans q3
      have hmin : Nat.min news.length n = min news.length n := rfl
      have hvl : (vss.take (min news.length n)).flatten.length = min news.length n * sz := by
        rw [flat_len (sz := sz) (fun x hx => w2 x (List.mem_of_mem_take hx))]
        simp [w1]
      have hfl := flat_take (min news.length n) w2 (by omega)
      have hf : (Builtin.firstCells sz (min news.length n) (.slice a2 news.length c2)).run P s.w = .ok (vss.take (min news.length n)).flatten.toArray s.w := by
        by_cases h0 : min news.length n = 0
        · rw [h0]
          cases a2 <;> simp [Builtin.firstCells, loadCells, loadCellsFrom]
        · rcases w4 with rfl | ⟨g, o', rfl, hat⟩
          · simp at h0
          · refine run_firstCells_some s.w sz _ ⟨g, o', none⟩ _ c2 _ hvl fun j u hj => ?_
            rw [add_none]
            rw [hfl, List.getElem?_take] at hj
            split at hj
            · exact hat j u hj
            · cases hj
      have hrun : ∀ (base : Option Addr) (cp : Nat), (Builtin.copy_ #[t, u] ty #[.slice base n cp, .slice a2 news.length c2]).run P s.w = match base with
          | some ad => ((storeCells ad (vss.take (min news.length n)).flatten).run P s.w).andThen fun _ w => .ok (.int .i64 (min news.length n : Nat)) w
          | none => .ok (.int .i64 (min news.length n : Nat)) s.w := by
        intro base cp
        cases base <;> simp [Builtin.copy_, run_underlying (sliceT_spec ht), szT_run hsz, Builtin.lenOf, hmin, hf, goInt]
      rcases hx with ⟨rfl, rfl, ad, rfl⟩ | ⟨g, el, N, hg, rfl, hshape, hN⟩
      · have hm0 : min news.length 0 = 0 := by simp
        simp only [hm0, List.take_zero, List.append_nil, Nat.add_zero, List.take_append_drop] at hrun ⊢
        have hset : H.set b (some { blk with es := blk.es }) = H := by
          apply List.ext_getElem?
          intro i
          rw [List.getElem?_set]
          split
          · rename_i e1
            subst e1
            rw [hbs]
            split
            · rfl
            · rename_i hlt; exact absurd (List.getElem?_eq_some_iff.1 hbs).1 hlt
          · rfl
        refine ⟨by simp, .int .i64 0, s, ?_, by simp only [modH]; rw [hset]; exact I, by simp only [modH]; rw [hset]; exact .refl, by simp [Rep], rfl⟩
        rw [hrun]
        cases ad <;> simp [storeCells]
      · obtain ⟨cs, hcs, hrow⟩ := hbr.row g hg
        have hNs : N = cs.size := by simp [World.shape?, hcs] at hshape; omega
        have hvl' : (vss.take (min news.length n)).flatten.length = min news.length n * l.sz := by rw [hvl, hlsz]
        obtain ⟨s1, t1, t2, t3, _, t5⟩ := write_row (P := P) (vs := (vss.take (min news.length n)).flatten) (k := l.off + o * l.sz)
          (es' := blk.es.take o ++ news.take (min news.length n) ++ blk.es.drop (o + min news.length n)) I hbs hρ hg hcs
          (by have : blk.ro * l.sz ≤ o * l.sz := Nat.mul_le_mul_right _ q2; omega)
          (by
            rw [hvl', Nat.add_assoc, ← Nat.add_mul]
            have : (o + min news.length n) * l.sz ≤ (o + cap) * l.sz := Nat.mul_le_mul_right _ (by omega)
            omega)
          (fun u hu => by
            obtain ⟨vs, hvs, hu⟩ := List.mem_flatten.1 hu
            obtain ⟨k, hk⟩ := List.getElem?_of_mem (List.mem_of_mem_take hvs)
            have hkl : k < news.length := by have := (List.getElem?_eq_some_iff.1 hk).1; omega
            exact (w3 k _ vs (List.getElem?_eq_getElem hkl) hk).2 u hu)
          (fun k cells hk => by
            have hsp := splice_at blk.es (news.take (min news.length n)) o (by simp; omega) k
            have hnl : (news.take (min news.length n)).length = min news.length n := by simp
            rw [hnl] at hsp
            rw [hsp] at hk
            split at hk
            · rename_i hc1
              rw [List.getElem?_take, if_pos (by omega)] at hk
              have hv : vss[k - o]? = some (vss[k - o]'(by omega)) := List.getElem?_eq_getElem (by omega)
              obtain ⟨p1, p2⟩ := w3 _ cells _ hk hv
              have hvz := w2 _ (List.getElem_mem (show k - o < vss.length by omega))
              have hcl := RepL_length p1
              refine ⟨by omega, fun j d hj => ?_⟩
              obtain ⟨u', hu', p3⟩ := RepL_at p1 hj
              have hjl := (List.getElem?_eq_some_iff.1 hj).1
              have hpos : l.off + k * l.sz + j - (l.off + o * l.sz) = (k - o) * sz + j := by
                rw [hlsz, Nat.sub_mul]
                have : o * sz ≤ k * sz := Nat.mul_le_mul_right _ (by omega)
                omega
              have hin : l.off + o * l.sz ≤ l.off + k * l.sz + j ∧ l.off + k * l.sz + j < l.off + o * l.sz + (vss.take (min news.length n)).flatten.length := by
                have h1 : o * sz ≤ k * sz := Nat.mul_le_mul_right _ (by omega)
                have h2 : (k - o + 1) * sz ≤ min news.length n * sz := Nat.mul_le_mul_right _ (by omega)
                rw [Nat.add_mul, Nat.sub_mul] at h2
                rw [hvl, hlsz]
                omega
              refine ⟨u', ?_, p2 u' (List.mem_of_getElem? hu'), p3⟩
              rw [if_pos hin, hpos]
              have hv2 : (vss.take (min news.length n))[k - o]? = some (vss[k - o]'(by omega)) := by rw [List.getElem?_take, if_pos (by omega)]; exact hv
              rw [flat_at (fun x hx => w2 x (List.mem_of_mem_take hx)) hv2 (by omega)]
              exact hu'
            · rename_i hc1
              obtain ⟨p1, p2⟩ := hrow k cells hk
              refine ⟨p1, fun j d hj => ?_⟩
              obtain ⟨u', hu', p3, p4⟩ := p2 j d hj
              have hjl := (List.getElem?_eq_some_iff.1 hj).1
              refine ⟨u', ?_, p3, p4⟩
              rw [if_neg]
              · exact hu'
              · rw [hvl']
                intro hcon
                by_cases hk1 : k < o
                · have : (k + 1) * l.sz ≤ o * l.sz := Nat.mul_le_mul_right _ hk1
                  rw [Nat.add_mul] at this
                  omega
                · have : (o + min news.length n) * l.sz ≤ k * l.sz := Nat.mul_le_mul_right _ (by omega)
                  rw [Nat.add_mul] at this
                  omega)
        refine ⟨rfl, .int .i64 (min news.length n : Nat), s1, ?_, t2, t3, by simp only [Rep], t5⟩
        rw [hrun]
        simp only [t1, Result.andThen_ok]
    · cases hs
  · cases hs
theorem zeroCells_flat (z : Array Value) (n : Nat) : (Builtin.zeroCells z n).toList = (List.replicate n z.toList).flatten := by
  apply List.ext_getElem?
  intro i
  have hl : ∀ x ∈ List.replicate n z.toList, x.length = z.size := fun x hx => by rw [(List.mem_replicate.1 hx).2]; simp
  by_cases hi : i < n * z.size
  · have hs : 0 < z.size := Nat.pos_of_ne_zero fun h => by rw [h] at hi; simp at hi
    have hm := Nat.mod_lt i hs
    have hd : i / z.size < n := Nat.div_lt_of_lt_mul (by rw [Nat.mul_comm]; exact hi)
    have he : i = i / z.size * z.size + i % z.size := by rw [Nat.mul_comm]; exact (Nat.div_add_mod i z.size).symm
    have h2 := flat_at (e := i / z.size) (j := i % z.size) (c := z.toList) hl (by simp [List.getElem?_replicate, hd]) hm
    rw [← he] at h2
    rw [h2]
    simp only [Builtin.zeroCells, Array.toList_map, Array.toList_range, List.getElem?_map]
    rw [List.getElem?_range hi]
    simp [getElem!_pos, hm]
  · rw [List.getElem?_eq_none (by simp [Builtin.zeroCells]; omega), List.getElem?_eq_none (by rw [flat_len hl]; simpa using hi)]
theorem clr_rep {t e : TypeId} {z : List D} {x : D} {v : Value} (ty : TypeId) (I : Inv H s) (ht : sliceT P t = some e) (hz : zeroT P e = some z) (hx : Rep s x v)
    {X : Opd} (hX : X.ev T = x) {md : Option (Nat × Option Blk)} (hs : ecore (.clr z.length z X) T H nid = some (d, md, nb)) :
    nb = none ∧ ∃ r s1, (Builtin.clear_ #[t] ty #[v]).run P s.w = .ok r s1.w ∧ Inv (modH H md) s1 ∧ Ext H s (modH H md) s1 ∧ Rep s1 d r ∧ s1.ρ = s.ρ := by
  simp only [ecore, hX] at hs
  have htup : ∀ s : St, Rep s (.tup []) (.tuple #[]) := fun s => by simp only [Rep]; exact ⟨#[], rfl, by simp [RepL]⟩
  split at hs
  · rename_i b o n full
    obtain ⟨blk, hb, hs⟩ := Option.bind_eq_some_iff.1 hs
    split at hs
    · rename_i hcond
      obtain ⟨q1, q2, q3, _⟩ := hcond
      cases hs
      have hbs := blkOf_some hb
      simp only [Rep] at hx
      obtain ⟨l, cap, hρ, hcap, _, hx⟩ := hx
      have hbr := I.rel b blk l hbs hρ
      have hlsz : l.sz = z.length := hbr.size.trans q3
      obtain ⟨zv, z1, z2, z3, z4, _⟩ := zeroT_run hz s.w
      have hzl : zv.cells.toList.length = z.length := RepL_length (z2 s)
      rcases hx with ⟨rfl, rfl, ad, rfl⟩ | ⟨g, el, N, hg, rfl, hshape, hN⟩
      · have hset : H.set b (some { blk with es := blk.es.take o ++ List.replicate 0 z ++ blk.es.drop (o + 0) }) = H := by
          apply List.ext_getElem?
          intro i
          rw [List.getElem?_set]
          split
          · rename_i e1
            subst e1
            rw [hbs]
            split
            · simp
            · rename_i hlt; exact absurd (List.getElem?_eq_some_iff.1 hbs).1 hlt
          · rfl
        refine ⟨rfl, .tuple #[], s, ?_, by simp only [modH]; rw [hset]; exact I, by simp only [modH]; rw [hset]; exact .refl, htup s, rfl⟩
        cases ad <;> simp [Builtin.clear_, run_underlying (sliceT_spec ht)]
      · obtain ⟨cs, hcs, hrow⟩ := hbr.row g hg
        have hNs : N = cs.size := by simp [World.shape?, hcs] at hshape; omega
        have hvl : (List.replicate n zv.cells.toList).flatten.length = n * l.sz := by
          rw [flat_len (sz := l.sz) (fun x hx => by rw [(List.mem_replicate.1 hx).2, hzl, hlsz])]
          simp
        obtain ⟨s1, t1, t2, t3, _, t5⟩ := write_row (P := P) (vs := (List.replicate n zv.cells.toList).flatten) (k := l.off + o * l.sz)
          (es' := blk.es.take o ++ List.replicate n z ++ blk.es.drop (o + n)) I hbs hρ hg hcs
          (by have : blk.ro * l.sz ≤ o * l.sz := Nat.mul_le_mul_right _ q2; omega)
          (by
            rw [hvl, Nat.add_assoc, ← Nat.add_mul]
            have : (o + n) * l.sz ≤ (o + cap) * l.sz := Nat.mul_le_mul_right _ (by omega)
            omega)
          (fun u hu => by
            obtain ⟨vs, hvs, hu⟩ := List.mem_flatten.1 hu
            rw [(List.mem_replicate.1 hvs).2] at hu
            exact z3 u hu)
          (fun k cells hk => by
            have hsp := splice_at blk.es (List.replicate n z) o (by simpa using q1) k
            have hnl : (List.replicate n z).length = n := by simp
            rw [hnl] at hsp
            rw [hsp] at hk
            split at hk
            · rename_i hc1
              rw [List.getElem?_replicate, if_pos (by omega)] at hk
              cases hk
              refine ⟨hlsz.symm, fun j d hj => ?_⟩
              obtain ⟨u', hu', p3⟩ := RepL_at (z2 s) hj
              have hjl := (List.getElem?_eq_some_iff.1 hj).1
              have hpos : l.off + k * l.sz + j - (l.off + o * l.sz) = (k - o) * l.sz + j := by
                rw [Nat.sub_mul]
                have : o * l.sz ≤ k * l.sz := Nat.mul_le_mul_right _ (by omega)
                omega
              have hin : l.off + o * l.sz ≤ l.off + k * l.sz + j ∧ l.off + k * l.sz + j < l.off + o * l.sz + (List.replicate n zv.cells.toList).flatten.length := by
                have h1 : o * l.sz ≤ k * l.sz := Nat.mul_le_mul_right _ (by omega)
                have h2 : (k - o + 1) * l.sz ≤ n * l.sz := Nat.mul_le_mul_right _ (by omega)
                rw [Nat.add_mul, Nat.sub_mul] at h2
                rw [hvl]
                omega
              refine ⟨u', ?_, z3 u' (List.mem_of_getElem? hu'), p3⟩
              rw [if_pos hin, hpos]
              rw [flat_at (sz := l.sz) (c := zv.cells.toList) (fun x hx => by rw [(List.mem_replicate.1 hx).2, hzl, hlsz]) (by rw [List.getElem?_replicate, if_pos (by omega)]) (by omega)]
              exact hu'
            · rename_i hc1
              obtain ⟨p1, p2⟩ := hrow k cells hk
              refine ⟨p1, fun j d hj => ?_⟩
              obtain ⟨u', hu', p3, p4⟩ := p2 j d hj
              have hjl := (List.getElem?_eq_some_iff.1 hj).1
              refine ⟨u', ?_, p3, p4⟩
              rw [if_neg]
              · exact hu'
              · rw [hvl]
                intro hcon
                by_cases hk1 : k < o
                · have : (k + 1) * l.sz ≤ o * l.sz := Nat.mul_le_mul_right _ hk1
                  rw [Nat.add_mul] at this
                  omega
                · have : (o + n) * l.sz ≤ k * l.sz := Nat.mul_le_mul_right _ (by omega)
                  rw [Nat.add_mul] at this
                  omega)
        refine ⟨rfl, .tuple #[], s1, ?_, t2, t3, htup s1, t5⟩
        have hst : ∀ n', n' = n → (Builtin.clear_ #[t] ty #[.slice (some ⟨g, l.off + o * l.sz, none⟩) n' cap]).run P s.w = .ok (.tuple #[]) s1.w := by
          intro n' hn'
          cases n' with
          | zero =>
            subst hn'
            simp only [List.replicate_zero, List.flatten_nil] at t1
            simp only [storeCells] at t1
            have t1' : s1.w = s.w := by simpa using t1.symm
            simp [Builtin.clear_, run_underlying (sliceT_spec ht), t1']
          | succ m =>
            subst hn'
            simp [Builtin.clear_, run_underlying (sliceT_spec ht), z1, zeroCells_flat, t1]
        exact hst n rfl
    · cases hs
  · rename_i z' f es
    split at hs
    · rename_i he
      subst he
      cases hs
      simp only [Rep] at hx
      obtain ⟨ad, cap, rfl, _⟩ := hx
      refine ⟨rfl, .tuple #[], s, ?_, I, .refl, htup s, rfl⟩
      cases ad <;> simp [Builtin.clear_, run_underlying (sliceT_spec ht)]
    · cases hs
  · cases hs
theorem one_arg {c : Call} {x : Opd} (h : optAll cOpd c.args.toList = some [x]) : ∃ x', c.args = #[x'] ∧ cOpd x' = some x := by
  obtain ⟨l1, l2⟩ := optAll_spec h
  match hl : c.args.toList, l1, l2 with
  | [p], _, l2 =>
    refine ⟨p, by apply Array.ext'; simpa using hl, ?_⟩
    obtain ⟨b, h1, h2⟩ := l2 0 p rfl
    simp at h1; subst h1; exact h2
theorem two_args {c : Call} {x y : Opd} (h : optAll cOpd c.args.toList = some [x, y]) : ∃ x' y', c.args = #[x', y'] ∧ cOpd x' = some x ∧ cOpd y' = some y := by
  obtain ⟨l1, l2⟩ := optAll_spec h
  match hl : c.args.toList, l1, l2 with
  | [p, q], _, l2 =>
    refine ⟨p, q, by apply Array.ext'; simpa using hl, ?_, ?_⟩
    · obtain ⟨b, h1, h2⟩ := l2 0 p rfl
      simp at h1; subst h1; exact h2
    · obtain ⟨b, h1, h2⟩ := l2 1 q rfl
      simp at h1; subst h1; exact h2
/-- What a writing operation does: the heap behind it, and that no other name turns. -/
def ER' (P : Program) (H : Heap) (s : St) (nid : Nat) (d : D) (md : Option (Nat × Option Blk)) (nb : Option Blk) (x : Sem Next) : Prop :=
  ∃ r v s1, x.run P s.w = .ok r s1.w ∧ nextV r = some v ∧ Inv (newH (modH H md) nid nb) s1 ∧ Ext H s (newH (modH H md) nid nb) s1 ∧ Rep s1 d v ∧ ∀ b, (nb.isSome = true → b ≠ nid) → s1.ρ b = s.ρ b
theorem e_soundN {o : Oper} {op : IOp} (hc : cOp P o = some op) (hT : TRel s T a) (I : Inv H s) {md : Option (Nat × Option Blk)} (hnew : nb.isSome = true → H[nid]? = some none ∧ s.ρ nid = none) (hs : ecore op T H nid = some (d, md, nb)) : ER' P H s nid d md nb (execOp a.eval o) := by
  obtain ⟨dst, oop, ty, pos, after, guard⟩ := o
  cases oop with
  | store t x y =>
    simp only [cOp] at hc
    split at hc
    · rename_i n x' y' h1 h2 h3
      cases hc
      have r1 := opd_rep hT h2
      have r2 := opd_rep hT h3
      simp only [ecore] at hs
      split at hs
      · rename_i b e j he
        simp only [Option.bind_eq_some_iff] at hs
        obtain ⟨blk, hb, c, hcc, m, hm, hs⟩ := hs
        split at hs
        · rename_i hcond
          cases hs
          rw [he] at r1
          obtain ⟨s1, k1, k2, k3, k4⟩ := store_rep (P := P) I h1 r1 r2 hb hcc hm hcond.1 hcond.2.1 hcond.2.2
          exact ⟨.skip, undef, s1, by simp [execOp, k1], rfl, k2, k3, by simp only [Rep]; exact ⟨#[], rfl, by simp [RepL]⟩, fun b _ => by rw [k4]⟩
        · cases hs
      · cases hs
    · cases hc
  | call c =>
    simp only [cOp] at hc
    split at hc
    · rename_i xs hxs
      split at hc
      · rename_i hb
        (repeat' (split at hc)) <;> first
          | (cases hc; cases hs; done)
          | (cases hc; done)
      · rename_i hb
        (repeat' (split at hc)) <;> first
          | (cases hc; cases hs; done)
          | (cases hc; done)
      · rename_i hb
        (repeat' (split at hc)) <;> first
          | (cases hc; cases hs; done)
          | (cases hc; done)
      · rename_i hb
        split at hc
        · rename_i x y t u ht
          have hty : c.argTypes = #[t, u] := by apply Array.ext'; simpa using ht
          obtain ⟨x', y', hargs, hx, hy⟩ := two_args hxs
          split at hc
          · rename_i e e' he he'
            split at hc
            · rename_i i hi
              split at hc
              · rename_i hcond
                obtain ⟨rfl, hz⟩ := hcond
                cases hc
                have hnbs : nb.isSome = true := by
                  have hs' := hs
                  simp only [ecore, Option.bind_eq_some_iff] at hs'
                  obtain ⟨_, _, hs'⟩ := hs'
                  split at hs'
                  · simp only [Option.bind_eq_some_iff] at hs'
                    obtain ⟨_, _, hs'⟩ := hs'
                    split at hs' <;> cases hs'
                    rfl
                  · split at hs' <;> cases hs'
                    rfl
                  · cases hs'
                obtain ⟨r, s1, k1, k2, k3, k4, k5⟩ := app_rep (P := P) ty I he he' hi hz (opd_rep hT hx) (opd_rep hT hy) rfl rfl (hnew hnbs).1 (hnew hnbs).2 hs
                refine ⟨.value r, r, s1, ?_, rfl, k2, k3, k4, fun b hb => k5 b (hb hnbs)⟩
                simp only [execOp]
                rw [call_args P s.w .append hb ty, hargs, hty]
                simp [builtin, k1]
              · cases hc
            · cases hc
          · cases hc
        · cases hc
      · rename_i hb
        split at hc
        · rename_i x y t u ht
          have hty : c.argTypes = #[t, u] := by apply Array.ext'; simpa using ht
          obtain ⟨x', y', hargs, hx, hy⟩ := two_args hxs
          split at hc
          · rename_i e e' he he'
            split at hc
            · rename_i hcond
              subst hcond
              simp only [Option.map_eq_some_iff] at hc
              obtain ⟨sz, hsz, rfl⟩ := hc
              obtain ⟨rfl, r, s1, k1, k2, k3, k4, k5⟩ := cpy_rep (P := P) (u := u) ty I he hsz (opd_rep hT hx) (opd_rep hT hy) rfl rfl hs
              refine ⟨.value r, r, s1, ?_, rfl, k2, k3, k4, fun b _ => by rw [k5]⟩
              simp only [execOp]
              rw [call_args P s.w .copy hb ty, hargs, hty]
              simp [builtin, k1]
            · cases hc
          · cases hc
        · cases hc
      · rename_i hb
        split at hc
        · rename_i x t ht
          have hty : c.argTypes = #[t] := by apply Array.ext'; simpa using ht
          obtain ⟨x', hargs, hx⟩ := one_arg hxs
          split at hc
          · rename_i e he
            split at hc
            · rename_i z hz
              cases hc
              obtain ⟨rfl, r, s1, k1, k2, k3, k4, k5⟩ := clr_rep (P := P) ty I he hz (opd_rep hT hx) rfl hs
              refine ⟨.value r, r, s1, ?_, rfl, k2, k3, k4, fun b _ => by rw [k5]⟩
              simp only [execOp]
              rw [call_args P s.w .clear hb ty, hargs, hty]
              simp [builtin, k1]
            · cases hc
          · cases hc
        · cases hc
      all_goals (repeat' (split at hc)) <;> first
        | (cases hc; cases hs; done)
        | (cases hc; done)
        | (simp only [Option.map_eq_some_iff] at hc; obtain ⟨_, _, rfl⟩ := hc; cases hs; done)
    · cases hc
  | slice t x lo hi mx =>
    cases mx with
    | some m => simp only [cOp] at hc; cases hc
    | none =>
      simp only [cOp] at hc
      (repeat' (split at hc)) <;> first
        | (cases hc; cases hs; done)
        | (cases hc; done)
        | (simp only [Option.map_eq_some_iff] at hc; obtain ⟨_, _, rfl⟩ := hc; cases hs; done)
  | _ =>
    simp only [cOp] at hc
    (repeat' (split at hc)) <;> first
      | (cases hc; cases hs; done)
      | (cases hc; done)
      | (simp only [Option.map_eq_some_iff] at hc; obtain ⟨_, _, rfl⟩ := hc; cases hs; done)

end
def pushB (H : Heap) : Option Blk → Heap
  | none => H
  | some b => H ++ [some b]
/-- The same at a heap's end. -/
def estep (op : IOp) (T : Tm) (H : Heap) : Option (D × Heap) := (ecore op T H H.length).map fun x => (x.1, pushB (modH H x.2.1) x.2.2)
section
variable {P : Program} {H : Heap} {s : St} {d : D} {T : Tm} {a : Act}
theorem blkOf_more (H : Heap) (b : Nat) : blkOf (H ++ [none]) b = blkOf H b := by
  unfold blkOf
  by_cases h : b < H.length
  · rw [List.getElem?_append_left h]
  · rw [List.getElem?_append_right (by omega), List.getElem?_eq_none (show H.length ≤ b by omega)]
    cases hb : b - H.length with
    | zero => rfl
    | succ k => simp
theorem szOk_more (H : Heap) (sz : Nat) (d : D) : szOk (H ++ [none]) sz d = szOk H sz d := by
  cases d <;> simp only [szOk, blkOf_more]
theorem elemsD_more (H : Heap) (d : D) : elemsD (H ++ [none]) d = elemsD H d := by
  cases d <;> simp only [elemsD, blkOf_more]
theorem ecore_more (op : IOp) (T : Tm) (H : Heap) (nid : Nat) : ecore op T (H ++ [none]) nid = ecore op T H nid := by
  cases op <;> simp only [ecore, newsD, blkOf_more, szOk_more, elemsD_more]
theorem e_sound {o : Oper} {op : IOp} (hc : cOp P o = some op) (hT : TRel s T a) (I : Inv H s) {H1 : Heap} (hs : estep op T H = some (d, H1)) : ER P H s d H1 (execOp a.eval o) := by
  simp only [estep, Option.map_eq_some_iff] at hs
  obtain ⟨⟨d', md, nb⟩, hs, he⟩ := hs
  simp only [Prod.mk.injEq] at he
  obtain ⟨rfl, rfl⟩ := he
  cases nb with
  | none =>
    obtain ⟨r, v, s1, h1, h2, h3, h4, h5, _⟩ := e_soundN hc hT I (fun h => by cases h) hs
    exact ⟨r, v, s1, h1, h2, h3, h4, h5⟩
  | some b =>
    rw [← ecore_more] at hs
    have hn : (H ++ [none])[H.length]? = some none := by simp
    obtain ⟨r, v, s1, h1, h2, h3, h4, h5, _⟩ := e_soundN hc hT (I.more [none]) (fun _ => ⟨hn, rho_none I (Nat.le_refl _)⟩) hs
    have hH : newH (modH (H ++ [none]) md) H.length (some b) = pushB (modH H md) (some b) := by
      cases md with
      | none => simp [newH, modH, pushB]
      | some m =>
        obtain ⟨i, x⟩ := m
        simp only [newH, modH, pushB]
        by_cases hi : i < H.length
        · rw [List.set_append_left _ _ hi, List.set_append_right _ _ (by simp)]
          simp
        · by_cases hi2 : i = H.length
          · subst hi2
            rw [List.set_append_right _ _ (by simp), List.set_append_right _ _ (by simp)]
            simp [List.set_eq_of_length_le]
          · have e1 : (H ++ [none]).set i x = H ++ [none] := List.set_eq_of_length_le (by simp; omega)
            rw [e1, List.set_append_right _ _ (by simp), List.set_eq_of_length_le (show H.length ≤ i by omega)]
            simp
    rw [hH] at h3 h4
    exact ⟨r, v, s1, h1, h2, h3, h4.of_more I, h5⟩
end
end Go.Proofs.Ytlagfebklcaaeaa

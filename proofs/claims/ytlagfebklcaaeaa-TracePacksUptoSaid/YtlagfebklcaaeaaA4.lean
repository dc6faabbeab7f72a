/- A value-level machine over the model, part 4: the compiler of operations, and that an operation which writes to no old block gives what the value level says. -/
import Derived.Test.YtlagfebklcaaeaaA3
namespace Go.Proofs.Ytlagfebklcaaeaa
set_option linter.all false

/-! ### Operands -/
def valC : Value → Option D
  | .bool b => some (.bool b)
  | .int k n => some (.int k n)
  | .string s => some (.str s)
  | .pointer none => some .nilptr
  | .slice none 0 0 => some (.sl 0 true [])
  | .nilFunc => some .nilfn
  | .nilIface => some .nilif
  | _ => none
def valD : Value → Option D
  | .agg cs => (optAll valC cs.toList).map .agg
  | v => valC v
theorem valC_rep {s : St} {v : Value} {d : D} (h : valC v = some d) : Rep s d v ∧ v.oneCell' = true ∧ d.cellB = true := by
  unfold valC at h
  split at h <;> cases h <;> refine ⟨?_, rfl, rfl⟩ <;> simp only [Rep]
  exact ⟨none, 0, rfl, by simp, by simp, by simp⟩
theorem optAll_spec {α β : Type} {f : α → Option β} : ∀ {l : List α} {m : List β}, optAll f l = some m → m.length = l.length ∧ ∀ (i : Nat) (a : α), l[i]? = some a → ∃ b, m[i]? = some b ∧ f a = some b
  | [], m, h => by simp [optAll] at h; subst h; exact ⟨rfl, fun i a h => by simp at h⟩
  | a :: l, m, h => by
    simp only [optAll] at h
    split at h
    · rename_i b m' hb hm
      cases h
      obtain ⟨h1, h2⟩ := optAll_spec hm
      refine ⟨by simp [h1], fun i x hx => ?_⟩
      cases i with
      | zero => simp at hx; subst hx; exact ⟨b, rfl, hb⟩
      | succ i => simpa using h2 i x (by simpa using hx)
    · cases h
theorem valCs_rep {s : St} {vs : List Value} {ds : List D} (h : optAll valC vs = some ds) : RepL s ds vs ∧ ∀ u ∈ vs, u.oneCell' = true := by
  obtain ⟨h1, h2⟩ := optAll_spec h
  refine ⟨RepL_of h1.symm fun i d v hd hv => ?_, fun u hu => ?_⟩
  · obtain ⟨b, hb, he⟩ := h2 i v hv
    rw [hd] at hb
    cases hb
    exact (valC_rep he).1
  · obtain ⟨i, hi⟩ := List.getElem?_of_mem hu
    obtain ⟨b, hb, he⟩ := h2 i u hi
    exact (valC_rep (s := s) he).2.1
theorem valD_rep {s : St} {v : Value} {d : D} (h : valD v = some d) : Rep s d v := by
  unfold valD at h
  split at h
  · rename_i cs
    simp only [Option.map_eq_some_iff] at h
    obtain ⟨ds, h, rfl⟩ := h
    obtain ⟨h1, h2⟩ := valCs_rep (s := s) h
    simp only [Rep]
    exact ⟨cs, rfl, h2, h1⟩
  · exact (valC_rep h).1
def cOpd : Operand → Option Opd
  | .tmp i => some (.t i)
  | .const v => (valD v).map .c
  | .func f => some (.c (.fn (.func f) [] []))
  | .global _ => none
def TRel (s : St) (T : Tm) (a : Act) : Prop := ∀ i, Rep s (T i) (a.tmps.getD i undef)
theorem opd_rep {s : St} {T : Tm} {a : Act} (hT : TRel s T a) {x : Operand} {y : Opd} (h : cOpd x = some y) : Rep s (y.ev T) (a.eval x) := by
  cases x with
  | tmp i => cases h; exact hT i
  | const v =>
    simp only [cOpd, Option.map_eq_some_iff] at h
    obtain ⟨d, h, rfl⟩ := h
    exact valD_rep h
  | global g => cases h
  | func f => cases h; simp only [Opd.ev, Rep]; exact ⟨#[], #[], rfl, by simp [RepL], by simp [RepL]⟩
theorem opds_rep {s : St} {T : Tm} {a : Act} (hT : TRel s T a) {xs : List Operand} {ys : List Opd} (h : optAll cOpd xs = some ys) : RepL s (ys.map (·.ev T)) (xs.map a.eval) := by
  obtain ⟨h1, h2⟩ := optAll_spec h
  refine RepL_of (by simp [h1]) fun i d v hd hv => ?_
  simp only [List.getElem?_map, Option.map_eq_some_iff] at hd hv
  obtain ⟨x, hx, rfl⟩ := hv
  obtain ⟨y, hy, rfl⟩ := hd
  obtain ⟨b, hb, he⟩ := h2 i x hx
  rw [hy] at hb
  cases hb
  exact opd_rep hT he
theorem Rep.mono' {s s1 : St} (E : Mono s s1) {d : D} {v : Value} (h : Rep s d v) : Rep s1 d v := Rep.mono E d v h
theorem TRel.mono {s s1 : St} (E : Mono s s1) {T : Tm} {a : Act} (h : TRel s T a) : TRel s1 T a := fun i => (h i).mono' E

/-! ### Types -/
def szT (P : Program) (t : TypeId) : Option Nat := (P.info? t).map (·.size)
def aggT (P : Program) (t : TypeId) : Option Bool := (P.underlying t).map fun d => match d with
  | .struct _ | .array _ _ => true
  | _ => false
def shapeT (P : Program) (t : TypeId) : Option (Option Nat) := match aggT P t, szT P t with
  | some true, some n => some (some n)
  | some false, some 1 => some none
  | _, _ => none
def zeroT (P : Program) (t : TypeId) : Option (List D) := match P.info? t with
  | some i => match i.zero with
    | some z => match optAll valC z.cells.toList with
      | some cs => if cs.length = i.size then some cs else none
      | none => none
    | none => none
  | none => none
theorem szT_run {P : Program} {t : TypeId} {n : Nat} (h : szT P t = some n) (w : World) : (sizeOf t).run P w = .ok n w := by
  simp only [szT, Option.map_eq_some_iff] at h
  obtain ⟨i, hi, rfl⟩ := h
  simp [sizeOf, typeInfo, hi]
theorem aggT_run {P : Program} {t : TypeId} {b : Bool} (h : aggT P t = some b) (w : World) : (isAgg t).run P w = .ok b w := by
  simp only [aggT, Option.map_eq_some_iff] at h
  obtain ⟨d, hd, rfl⟩ := h
  simp only [isAgg, Sem.run_bind, run_underlying hd, Result.andThen_ok]
  cases d <;> rfl
theorem zeroT_run {P : Program} {t : TypeId} {cs : List D} (h : zeroT P t = some cs) (w : World) :
    ∃ z, (zeroValue t).run P w = .ok z w ∧ (∀ s, RepL s cs z.cells.toList) ∧ (∀ u ∈ z.cells.toList, u.oneCell' = true) ∧ szT P t = some cs.length ∧ ∃ i, P.info? t = some i ∧ i.zero = some z := by
  unfold zeroT at h
  split at h
  · rename_i i hi
    split at h
    · rename_i z hz
      split at h
      · rename_i ds hds
        split at h
        · rename_i hl
          cases h
          refine ⟨z, by simp [zeroValue, typeInfo, hi, hz], fun s => (valCs_rep hds).1, (valCs_rep (s := ⟨w, fun _ => none, fun _ _ => False⟩) hds).2, by simp [szT, hi, hl], i, hi, hz⟩
        · cases h
      · cases h
    · cases h
  · cases h

/-! ### Loads -/
theorem add_none (g o n : Nat) : (⟨g, o, none⟩ : Addr).add n = ⟨g, o + n, none⟩ := by unfold Addr.add; split <;> simp_all
/-- Where a datum that points to cells points to. -/
def At (s : St) (g o : Nat) (c : List D) : Prop := ∀ (j : Nat) (d : D), c[j]? = some d → ∃ u, s.w.cell? ⟨g, o + j, none⟩ = some u ∧ u.oneCell' = true ∧ Rep s d u
theorem RepC.at {s : St} {g o : Nat} {c : List D} (h : RepC s g o c) : At s g o c := fun j d hj => let ⟨u, a, _, b, e⟩ := RepC_at h hj; ⟨u, a, b, e⟩
theorem load_at {P : Program} {s : St} {t : TypeId} {sz : Option Nat} (ht : shapeT P t = some sz) {g o j : Nat} {c : List D} {d : D} (h : At s g o c) (hd : takeD c j sz = some d) :
    ∃ v, (Instr.loadAt t (.pointer (some ⟨g, o + j, none⟩))).run P s.w = .ok v s.w ∧ Rep s d v := by
  unfold shapeT at ht
  split at ht
  · rename_i n ha hn
    cases ht
    simp only [takeD] at hd
    split at hd
    · rename_i hle
      cases hd
      have key : ∀ m, j + m ≤ c.length → ∃ vs : List Value, vs.length = m ∧ (∀ i v, vs[i]? = some v → s.w.cell? ⟨g, o + j + i, none⟩ = some v) ∧ (∀ u ∈ vs, u.oneCell' = true) ∧ RepL s ((c.drop j).take m) vs := by
        intro m
        induction m with
        | zero => intro _; exact ⟨[], rfl, fun i v h => by simp at h, by simp, by simp [RepL]⟩
        | succ m ih =>
          intro hm
          obtain ⟨vs, h1, h2, h3, h4⟩ := ih (by omega)
          have hlt : j + m < c.length := by omega
          obtain ⟨u, hu, hu1, hu2⟩ := h (j + m) c[j + m] (List.getElem?_eq_getElem hlt)
          refine ⟨vs ++ [u], by simp [h1], fun i v hv => ?_, fun x hx => ?_, ?_⟩
          · by_cases hi : i < m
            · rw [List.getElem?_append_left (by omega)] at hv
              exact h2 i v hv
            · rw [List.getElem?_append_right (by omega)] at hv
              have : i - vs.length = 0 := by
                by_cases h0 : i - vs.length = 0
                · exact h0
                · rw [List.getElem?_eq_none (by simp; omega)] at hv; cases hv
              rw [this] at hv
              cases hv
              have e : o + j + i = o + (j + m) := by omega
              rw [e]; exact hu
          · simp at hx
            rcases hx with hx | rfl
            · exact h3 x hx
            · exact hu1
          · have e : (c.drop j).take (m + 1) = (c.drop j).take m ++ [c[j + m]] := by
              rw [List.take_succ_eq_append_getElem (by simp; omega)]
              simp
            rw [e]
            exact RepL_append h4 (by simp only [RepL]; exact ⟨u, [], rfl, hu2, rfl⟩)
      obtain ⟨vs, h1, h2, h3, h4⟩ := key n hle
      refine ⟨.agg vs.toArray, ?_, ?_⟩
      · have hl := run_loadCells_list (P := P) s.w ⟨g, o + j, none⟩ vs (fun i v hv => by rw [add_none]; exact h2 i v hv)
        rw [h1] at hl
        simp only [Instr.loadAt, Instr.sureAddr, loadVar, Sem.run_bind, Sem.run_pure, Result.andThen_ok, aggT_run ha, szT_run hn, if_true, hl]
      · simp only [Rep]
        exact ⟨_, rfl, by simpa using h3, by simpa using h4⟩
    · cases hd
  · rename_i ha hn
    cases ht
    simp only [takeD] at hd
    obtain ⟨u, hu, _, hr⟩ := h j d hd
    refine ⟨u, ?_, hr⟩
    simp [Instr.loadAt, Instr.sureAddr, loadVar, aggT_run ha, hu]
  · cases ht
/-- What a pointer points to. -/
def Points (H : Heap) (s : St) (d : D) (v : Value) : Prop := ∀ c j, (∃ b e blk, d = .ptr b e j ∧ blkOf H b = some blk ∧ blk.es[e]? = some c) ∨ d = .iptr c j → ∃ g o, v = .pointer (some ⟨g, o + j, none⟩) ∧ At s g o c
def Reads (Hf H : Heap) (s : St) : Prop := ∀ b blk, H[b]? = some (some blk) → (s.ρ b).isSome → Hf[b]? = some (some blk)
theorem blkOf_some {H : Heap} {b : Nat} {blk : Blk} (h : blkOf H b = some blk) : H[b]? = some (some blk) := by
  unfold blkOf at h
  cases hb : H[b]? with
  | none => rw [hb] at h; cases h
  | some x => rw [hb] at h; cases x with
    | none => cases h
    | some y => simpa using h
theorem points {Hf H : Heap} {s : St} (I : Inv Hf s) (hr : Reads Hf H s) {d : D} {v : Value} (h : Rep s d v) : Points H s d v := by
  rintro c j (⟨b, e, blk, rfl, hb, he⟩ | rfl)
  · simp only [Rep] at h
    obtain ⟨l, g, h1, h2, rfl⟩ := h
    obtain ⟨cs, hcs, hrow⟩ := (I.rel b blk l (hr b blk (blkOf_some hb) (by simp [h1])) h1).row g h2
    obtain ⟨_, hrow⟩ := hrow e c he
    refine ⟨g, l.off + e * l.sz, rfl, fun i x hx => ?_⟩
    obtain ⟨u, hu, h3, h4⟩ := hrow i x hx
    exact ⟨u, by rw [cell_of_row _ _ _ _ _ _ hcs]; exact hu, h3, h4⟩
  · simp only [Rep] at h
    obtain ⟨g, o, rfl, h1⟩ := h
    exact ⟨g, o, rfl, h1.at⟩
theorem load_rep {P : Program} {Hf H : Heap} {s : St} (I : Inv Hf s) (hr : Reads Hf H s) {t : TypeId} {sz : Option Nat} (ht : shapeT P t = some sz) {x d : D} {v : Value} (h : Rep s x v) (hd : loadD H sz x = some d) :
    ∃ u, (Instr.loadAt t v).run P s.w = .ok u s.w ∧ Rep s d u := by
  have hp := points I hr h
  unfold loadD at hd
  split at hd
  · rename_i b e j
    simp only [Option.bind_eq_some_iff] at hd
    obtain ⟨blk, hb, c, hc, hd⟩ := hd
    obtain ⟨g, o, rfl, hat⟩ := hp c j (.inl ⟨b, e, blk, rfl, hb, hc⟩)
    exact load_at ht hat hd
  · rename_i c j
    obtain ⟨g, o, rfl, hat⟩ := hp c j (.inr rfl)
    exact load_at ht hat hd
  · cases hd
/-- The elements of a slice lie in memory. -/
theorem elems_rep {Hf H : Heap} {s : St} (I : Inv Hf s) (hr : Reads Hf H s) {x : D} {v : Value} (h : Rep s x v) {es : List (List D)} (he : elemsD H x = some es) :
    ∃ a cap, v = .slice a es.length cap ∧ (es = [] ∨ ∃ g o sz, a = some ⟨g, o, none⟩ ∧ ∀ (i : Nat) (e : List D), es[i]? = some e → e.length = sz ∧ At s g (o + i * sz) e) := by
  unfold elemsD at he
  split at he
  · cases he
    simp only [Rep] at h
    obtain ⟨a, cap, rfl, _, _, h⟩ := h
    refine ⟨a, cap, rfl, h.imp id ?_⟩
    rintro ⟨g, o, h1, h2⟩
    exact ⟨g, o, _, h1, fun i e hi => let ⟨p, q⟩ := RepR_at h2 hi; ⟨p, q.at⟩⟩
  · rename_i b o n full
    simp only [Option.bind_eq_some_iff] at he
    obtain ⟨blk, hb, he⟩ := he
    split at he
    · rename_i hle
      cases he
      simp only [Rep] at h
      obtain ⟨l, cap, h1, _, _, h⟩ := h
      have hlen : ((blk.es.drop o).take n).length = n := by simp; omega
      rcases h with ⟨rfl, rfl, a, rfl⟩ | ⟨g, elem, N, h2, rfl, h3, h4⟩
      · exact ⟨a, 0, by simp, .inl (by simp)⟩
      · refine ⟨_, cap, by rw [hlen], .inr ⟨g, l.off + o * l.sz, l.sz, rfl, fun i e hi => ?_⟩⟩
        obtain ⟨cs, hcs, hrow⟩ := (I.rel b blk l (hr b blk (blkOf_some hb) (by simp [h1])) h1).row g h2
        have hi' : blk.es[o + i]? = some e := by
          rw [List.getElem?_take] at hi
          split at hi
          · simpa using hi
          · cases hi
        obtain ⟨q1, q2⟩ := hrow _ _ hi'
        refine ⟨q1, fun j d hj => ?_⟩
        obtain ⟨u, hu, h5, h6⟩ := q2 j d hj
        refine ⟨u, ?_, h5, h6⟩
        rw [cell_of_row _ _ _ _ _ _ hcs, show l.off + o * l.sz + i * l.sz + j = l.off + (o + i) * l.sz + j from by rw [Nat.add_mul]; omega]
        exact hu
    · cases he
  · cases he
end Go.Proofs.Ytlagfebklcaaeaa

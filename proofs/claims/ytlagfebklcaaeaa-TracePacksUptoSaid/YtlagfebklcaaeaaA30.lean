/- A value-level machine over the model, part 30: a law that is true of all data answers its row. -/
import Derived.Test.YtlagfebklcaaeaaA29
namespace Go.Proofs.Ytlagfebklcaaeaa
set_option linter.all false
open Go.ChangeShapes Go.WideShapes Go.ChangeAt Go.RowKit
def aggB (P : Program) (t : TypeId) : Bool := match P.underlying t with
  | some (.struct _) => true
  | some (.array _ _) => true
  | _ => false
/-- An argument of this type. -/
def HasA (P : Program) (n : Nat) (t : TypeId) (x : D) : Prop := if aggB P t = true then ∃ cs, x = .agg cs ∧ HasT P n t cs else HasT P n t [x]
def HasAs (P : Program) (n : Nat) : List TypeId → List D → Prop
  | [], xs => xs = []
  | t :: ts, xs => ∃ x r, xs = x :: r ∧ HasA P n t x ∧ HasAs P n ts r
section
variable {H : Type} {enc : TypeId × Value → H} {P : Program} {w W W' : World}
theorem arg_has {t : TypeId} {v : Value} {d : DataW H} {ps : List MemPlace} {n : Nat} {r : Reach} {b : Nat} (h : DataW.Trod enc P w 0 (fun _ => true) true t v d ps) (hp : plainT P n t = true) (hv : Value.okWide P w r b t v) :
    ∃ x, HasA P n t x ∧ (∀ s : St, s.w = w → (∀ c o, ¬ s.NI c o) → Rep s x v) ∧ bulkD x ≤ Rows.uptoBulk d := by
  obtain ⟨fuel, h⟩ := h
  obtain ⟨ds, h1, h2, h3⟩ := trod_has fuel t _ _ n h hp
  have one : ∀ u : Value, v = u → u.cells = #[u] → aggB P t = false → ∃ x, HasA P n t x ∧ (∀ s : St, s.w = w → (∀ c o, ¬ s.NI c o) → Rep s x v) ∧ bulkD x ≤ Rows.uptoBulk d := by
    intro u hu hc hb
    subst hu
    rw [hc] at h2
    obtain ⟨x, rfl⟩ : ∃ x, ds = [x] := by
      have := h2.1
      match ds, this with
      | [x], _ => exact ⟨x, rfl⟩
    refine ⟨x, by rw [HasA, if_neg (by rw [hb]; exact Bool.false_ne_true)]; exact h1, fun s hs hn => ?_, by simp only [bulkL] at h3; omega⟩
    have := h2.2.2 s hs hn
    simp only [RepL] at this
    obtain ⟨v', rest, e, hr, _⟩ := this
    cases e
    exact hr
  have agg : ∀ cs : Array Value, v = .agg cs → aggB P t = true → ∃ x, HasA P n t x ∧ (∀ s : St, s.w = w → (∀ c o, ¬ s.NI c o) → Rep s x v) ∧ bulkD x ≤ Rows.uptoBulk d := by
    intro cs hc hb
    subst hc
    refine ⟨.agg ds, by rw [HasA, if_pos hb]; exact ⟨ds, rfl, h1⟩, fun s hs hn => ?_, by simp only [bulkD]; exact h3⟩
    simp only [Rep]
    exact ⟨cs, rfl, h2.2.1, h2.2.2 s hs hn⟩
  cases n with
  | zero => simp [plainT] at hp
  | succ n =>
    simp only [plainT] at hp
    split at hp
    · rename_i hu; obtain ⟨x, e⟩ := okWide_bool hu hv; exact one _ e rfl (by simp [aggB, hu])
    · rename_i hu; obtain ⟨x, e⟩ := okWide_string hu hv; exact one _ e rfl (by simp [aggB, hu])
    · rename_i hu; obtain ⟨x, e⟩ := okWide_int hu hv; exact one _ e rfl (by simp [aggB, hu])
    · rename_i hu; obtain ⟨a, l, c, e⟩ := okWide_slice hu hv; exact one _ e rfl (by simp [aggB, hu])
    · rename_i hu; obtain ⟨cs, e, _⟩ := okWide_struct hu hv; exact agg cs e (by simp [aggB, hu])
    · rename_i hu
      have : ∃ cs, v = .agg cs ∧ cs.size = P.cellsOf t ∧ Row.okWide P w r b t cs := by simpa [Value.okWide, hu] using hv
      obtain ⟨cs, e, _⟩ := this
      exact agg cs e (by simp [aggB, hu])
    · cases hp
theorem args_has {n : Nat} {r : Reach} {b : Nat} : ∀ {ts : List TypeId} {vs : List Value} {ds : List (DataW H)} {ps : List MemPlace}, DataW.TrodAll enc P w 0 (fun _ => true) true ts vs ds ps → ts.all (plainT P n) = true →
    (∀ (j : Nat) t v, ts[j]? = some t → vs[j]? = some v → Value.okWide P w r b t v) → ds.length = ts.length ∧ ∃ xs, HasAs P n ts xs ∧ (∀ s : St, s.w = w → (∀ c o, ¬ s.NI c o) → RepL s xs vs) ∧ bulkL xs ≤ Rows.uptoBulkAll ds
  | [], vs, ds, ps, h, _, _ => by
    obtain ⟨rfl, rfl, rfl⟩ := trodAll_nil h
    exact ⟨rfl, [], rfl, fun s _ _ => by simp [RepL], by simp [bulkL]⟩
  | t :: ts, vs, ds, ps, h, hp, hv => by
    obtain ⟨v, vs', d, ds', p, q, rfl, rfl, rfl, h0, h1⟩ := trodAll_cons h
    simp only [List.all_cons, Bool.and_eq_true] at hp
    obtain ⟨x, x1, x2, x3⟩ := arg_has h0 hp.1 (hv 0 t v rfl rfl)
    obtain ⟨hl, xs, y1, y2, y3⟩ := args_has h1 hp.2 fun j t' v' a b => hv (j + 1) t' v' (by simpa using a) (by simpa using b)
    refine ⟨by simp [hl], x :: xs, ⟨x, xs, rfl, x1, y1⟩, fun s hs hn => by simp only [RepL]; exact ⟨v, vs', rfl, x2 s hs hn, y2 s hs hn⟩, by simp only [bulkL, Rows.uptoBulkAll]; omega⟩
theorem trodAll_stays (hl : laidOutB P = true) (hb : Below W.heap.size W W') {sp : Nat → Bool} : ∀ {ts : List TypeId} {vs : List Value} {ds : List (DataW H)} {ps : List MemPlace}, ts.all (fun t => P.readableRec t && decide (t < P.types.size)) = true →
    DataW.TrodAll enc P W 0 (fun _ => true) true ts vs ds ps → (∀ p ∈ ps, p.block < W.heap.size) → (∀ p ∈ ps, sp p.block = true) → DataW.TrodAll enc P W' 0 sp true ts vs ds ps
  | [], vs, ds, ps, _, h, _, _ => by
    obtain ⟨rfl, rfl, rfl⟩ := trodAll_nil h
    exact trodAll_mk0
  | t :: ts, vs, ds, ps, ht, h, hlt, hs => by
    obtain ⟨v, vs', d, ds', p, q, rfl, rfl, rfl, h0, h1⟩ := trodAll_cons h
    simp only [List.all_cons, Bool.and_eq_true, decide_eq_true_eq] at ht
    exact ⟨p, q, Go.WideElems.Trod_stays hl ht.1.1 ht.1.2 h0 (fun x hx => hb.same (hlt x (by simp [hx]))) (fun x hx => hs x (by simp [hx])),
      trodAll_stays hl hb ht.2 h1 (fun x hx => hlt x (by simp [hx])) (fun x hx => hs x (by simp [hx])), rfl⟩
/-- A function that is true of all data of these types leaves the world as it was and returns true. -/
theorem law_calls {f : FuncId} {fn : Func} {n N : Nat} {args : Array Value} {ds gs : List (DataW H)} {p : List MemPlace} {r : Reach} {b : Nat} (hpl : fn.params.toList.all (plainT P n) = true)
    (hfn : ∀ xs, HasAs P n fn.params.toList xs → bulkL xs ≤ N → Fn P f xs (.bool true)) (hA : DataW.TrodAll enc P W 0 (fun _ => true) true fn.params.toList args.toList ds p)
    (hval : ∀ (j : Nat) t v, fn.params[j]? = some t → args[j]? = some v → Value.okWide P W r b t v) (hk : Rows.uptoBulkAll (ds ++ gs) ≤ N) :
    ds.length = fn.params.size ∧ Calls P f args W fun e W' => e = .returned (.bool true) ∧ Below W.heap.size W W' := by
  obtain ⟨hl, xs, h1, h2, h3⟩ := args_has hA hpl fun j t v a b => hval j t v (by simpa using a) (by simpa using b)
  have hle : Rows.uptoBulkAll ds ≤ Rows.uptoBulkAll (ds ++ gs) := by
    clear hk h3 hA hl
    induction ds with
    | nil => simp [Rows.uptoBulkAll]
    | cons d ds ih => simp only [List.cons_append, Rows.uptoBulkAll]; omega
  refine ⟨by simpa using hl, ?_⟩
  have hF := hfn xs h1 (by omega)
  let s : St := ⟨W, fun _ => none, fun _ _ => False⟩
  have I : Inv [] s := bare_inv (s := s) (NI := fun _ _ => False) (fun _ _ h => h.elim)
  refine ((hF.ac []).2 s args I (h2 s rfl fun _ _ h => h)).mono fun e w' ⟨v, r', H1, s1, he, hw, ⟨hr, _⟩, _, E, hrep⟩ => ?_
  subst hr hw he
  simp only [Rep] at hrep
  subst hrep
  exact ⟨rfl, E.os, E.tape, E.output, E.size, fun k hk => E.obj k hk fun _ => no_wr⟩
theorem law_post {f : FuncId} {fn : Func} {n N : Nat} {s : ChangeSpec} {args : Array Value} {ds gs : List (DataW H)} {before : List MemPlace} {r : Reach} {b : Nat} {tb : TypeId} (hl : laidOutB P = true) (hres : fn.resultTypes = #[tb]) (htb : P.underlying tb = some .bool)
    (hrd : fn.params.toList.all (fun t => P.readableRec t && decide (t < P.types.size)) = true) (hpl : fn.params.toList.all (plainT P n) = true) (hvars : s.vars = [])
    (hs : ∀ ds : List (DataW H), ds.length = fn.params.size → s.fn H ds = { results := [.lit (.bool true)], args := ds, vars := [] })
    (hfn : ∀ xs, HasAs P n fn.params.toList xs → bulkL xs ≤ N → Fn P f xs (.bool true))
    (hW : DataW.Whole enc P fn.params.toList s.vars false W args.toList ds gs before)
    (hval : ∀ (j : Nat) t v, fn.params[j]? = some t → args[j]? = some v → Value.okWide P W r b t v) (hk : Rows.uptoBulkAll (ds ++ gs) ≤ N) :
    Calls P f args W fun e W' => ∃ v, e = .returned v ∧ s.post enc P fn false true false false W args v W' := by
  have hW0 := hW
  obtain ⟨p, q, hA, hV, hpq, hfz, hnd⟩ := hW
  rw [hvars] at hV
  obtain ⟨rfl, rfl⟩ := trodVars_none hV
  obtain ⟨hdl, hc⟩ := law_calls hpl hfn hA hval hk
  refine hc.mono fun e W' ⟨he, hb⟩ => ⟨_, he, ?_⟩
  have hlt : ∀ x ∈ before, x.block < W.heap.size := fun x hx => hW0.lt x hx
  have hsd := hs ds hdl
  rw [List.append_nil] at hpq
  subst hpq
  have hargs : ∀ sp : Nat → Bool, (∀ x ∈ before, sp x.block = true) → DataW.TrodAll enc P W' 0 sp true fn.params.toList args.toList (s.fn H (ds ++ [])).args before := fun sp hsp => by
    rw [List.append_nil, hsd]
    exact trodAll_stays hl hb hrd hA hlt hsp
  have hvs : ∀ sp : Nat → Bool, DataW.TrodVars enc P W' sp s.vars (s.fn H (ds ++ [])).vars [] := fun sp => by
    rw [List.append_nil, hsd, hvars]
    rfl
  have hrs : ∀ (b : Nat) (sp : Nat → Bool) (hd : Bool), DataW.TrodAll enc P W' b sp hd fn.resultTypes.toList ((Value.bool true).resultList fn.resultTypes.size) (s.fn H (ds ++ [])).results [] := fun b sp hd => by
    rw [List.append_nil, hsd, hres]
    exact trodAll_cons_mk (shut_bool htb _) trodAll_mk0
  refine ⟨ds, [], before, [], before, [], hW0, hrs _ _ _, hargs _ (fun x hx => by simpa using hlt x hx), hvs _, World.keptBut_mono (fun x hx => ⟨hx, ?_⟩) (hb.frame (· ∈ before)), fun _ => ?_⟩
  · simpa using hx
  · refine ⟨ok_one hres rfl (okWide_bool_mk htb _), _, _, ([] ++ before) ++ [], ⟨[] ++ before, [], trodAll_append (hargs _ (fun _ _ => rfl)) (hrs _ _ _), hvs _, rfl, ?_, ?_⟩, ?_⟩
    · intro b off hp
      have hin : MemPlace.cell b off ∈ before := by simpa using hp
      rw [hb.frozen (hlt _ hin)]
      exact hfz b off (by simpa using hin)
    · intro ha
      cases ha
    · intro x hx _
      simpa using hx
end
section
variable {P : Program} {n : Nat} {t : TypeId} {cs : List D} {x : D}
theorem HasT.struct {fs : Array Field} (h : HasT P (n + 1) t cs) (hu : P.underlying t = some (.struct fs)) : HasFs (HasT P n) fs.toList cs := by
  simp only [HasT, hu] at h; exact h
theorem HasT.int {k : IntKind} (h : HasT P (n + 1) t cs) (hu : P.underlying t = some (.int k)) : ∃ x, cs = [.int k x] ∧ (Lit.int k x).wf = true := by
  simp only [HasT, hu] at h; exact h
theorem HasT.bool (h : HasT P (n + 1) t cs) (hu : P.underlying t = some .bool) : ∃ x, cs = [.bool x] := by
  simp only [HasT, hu] at h; exact h
theorem HasT.str (h : HasT P (n + 1) t cs) (hu : P.underlying t = some .string) : ∃ x : ByteArray, cs = [.str x] ∧ x.size ≤ maxLen := by
  simp only [HasT, hu] at h; exact h
theorem HasT.slice {e : TypeId} (h : HasT P (n + 1) t cs) (hu : P.underlying t = some (.slice e)) : ∃ es, cs = [.sl (P.cellsOf e) false es] ∧ es.length ≤ maxLen ∧ ∀ e' ∈ es, HasT P n e e' := by
  simp only [HasT, hu] at h; exact h
theorem HasT.array {m : Nat} {e : TypeId} (h : HasT P (n + 1) t cs) (hu : P.underlying t = some (.array m e)) : ∃ parts : List (List D), cs = parts.flatten ∧ parts.length = m ∧ ∀ p ∈ parts, HasT P n e p := by
  simp only [HasT, hu] at h; exact h
theorem HasA.cell (h : HasA P n t x) (hu : aggB P t = false) : HasT P n t [x] := by
  rwa [HasA, if_neg (by rw [hu]; exact Bool.false_ne_true)] at h
theorem HasA.agg (h : HasA P n t x) (hu : aggB P t = true) : ∃ cs, x = .agg cs ∧ HasT P n t cs := by
  rwa [HasA, if_pos hu] at h
theorem HasAs.cons {ts : List TypeId} {xs : List D} (h : HasAs P n (t :: ts) xs) : ∃ x r, xs = x :: r ∧ HasA P n t x ∧ HasAs P n ts r := h
theorem HasAs.nil {xs : List D} (h : HasAs P n [] xs) : xs = [] := h
theorem all_map {α : Type} {f : α → List D} {Q : List D → Prop} (hq : ∀ c, Q c → ∃ a, c = f a) : ∀ {es : List (List D)}, (∀ e ∈ es, Q e) → ∃ l : List α, es = l.map f
  | [], _ => ⟨[], rfl⟩
  | e :: es, h => by
    obtain ⟨a, rfl⟩ := hq e (h e (by simp))
    obtain ⟨l, rfl⟩ := all_map hq (es := es) fun x hx => h x (by simp [hx])
    exact ⟨a :: l, rfl⟩
theorem bulk_map {α : Type} {f : α → List D} (k : Nat) (hk : ∀ a, k ≤ bulkL (f a)) (l : List α) : k * l.length ≤ bulkR (l.map f) := by
  induction l with
  | nil => simp [bulkR]
  | cons a l ih =>
    have := hk a
    simp only [List.map_cons, bulkR, List.length_cons, Nat.mul_add, Nat.mul_one]
    omega
end
attribute [irreducible] HasA HasAs
end Go.Proofs.Ytlagfebklcaaeaa

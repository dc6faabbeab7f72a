/- A value-level machine over the model, part 20: a region that draws its order is served by one run in the text's order. -/
import Derived.Test.YtlagfebklcaaeaaA19
namespace Go.Proofs.Ytlagfebklcaaeaa
set_option linter.all false

/-- The heap with no other blocks than R. -/
def restr (H : Heap) (R : List Nat) : Heap := (List.range H.length).map fun i => if R.contains i then (H[i]?).getD none else none
/-- What one operation does: its value, the blocks that it writes, those that it reads, the name of a new one. -/
inductive DS (P : Program) (op : IOp) (T : Tm) (H : Heap) (nid : Nat) : D → List (Nat × Option Blk) → List Nat → Option Nat → Prop
  | q {d : D} (h : qstep op T H nid = some (d, none)) : DS P op T H nid d [] (op.reads T) none
  | qn {d : D} {b : Blk} (h : qstep op T H nid = some (d, some b)) (hn : H[nid]? = some none) : DS P op T H nid d [(nid, some b)] (op.reads T) (some nid)
  | e {d : D} {m : Nat × Option Blk} (h : ecore op T H nid = some (d, some m, none)) : DS P op T H nid d [m] (op.reads T) none
  | en {d : D} {m : Nat × Option Blk} {b : Blk} (h : ecore op T H nid = some (d, some m, some b)) (hn : H[nid]? = some none) : DS P op T H nid d [m, (nid, some b)] (op.reads T) (some nid)
  | em {d : D} {b : Blk} (h : ecore op T H nid = some (d, none, some b)) (hn : H[nid]? = some none) : DS P op T H nid d [(nid, some b)] (op.reads T) (some nid)
  | c {f : FuncId} {xs : List D} {r : D} (h : callD P op T = some (f, xs)) (hc : Fn P f xs r) : DS P op T H nid r [] [] none
  | cn {f : FuncId} {xs : List D} {d : Nat → D} {b : Blk} (h : callD P op T = some (f, xs)) (hc : ACN P f xs d (some b)) (hn : H[nid]? = some none) : DS P op T H nid (d nid) [(nid, some b)] [] (some nid)
  | cl {f : FuncId} {xs xs' : List D} {r : D} (R : List Nat) (h : callD P op T = some (f, xs)) (hc : Fn P f xs' r) (hl : LendL (restr H R) xs xs') (hr : flatD r = true) : DS P op T H nid r [] R none
def DRun (P : Program) (bs : List (List Nat)) : List IQ → Tm → Heap → Nat → List TE → (Tm → Heap → Prop) → Prop
  | [], T, H, _, acc, K => pairsOk bs acc = true ∧ K T H
  | o :: l, T, H, nid, acc, K =>
    match o.guard with
    | none => ∃ d ws rd nw, DS P o.op T H nid d ws rd nw ∧ DRun P bs l (put T o.dst d) (upW H ws) (if nw.isSome then nid + 1 else nid) (acc ++ [⟨o.dst, o.op.looks, d, ws, rd, nw⟩]) K
    | some (t, b) => ∃ v, T t = .bool v ∧
      ((v = b → ∃ d ws rd nw, DS P o.op T H nid d ws rd nw ∧ DRun P bs l (put T o.dst d) (upW H ws) (if nw.isSome then nid + 1 else nid) (acc ++ [⟨o.dst, t :: o.op.looks, d, ws, rd, nw⟩]) K) ∧
       (v ≠ b → DRun P bs l (put T o.dst (.tup [])) H nid (acc ++ [⟨o.dst, [t], .tup [], [], [], none⟩]) K))
/-- What is known of operation i: at its place in the text it does what the trace says. -/
def Did (P : Program) (io : IQ) (T : Tm) (H : Heap) (nid : Nat) (t : TE) : Prop :=
  t.dst = io.dst ∧ (t.nw.isSome = true → t.nw = some nid ∧ nid ∈ t.ids) ∧
  ((io.guard = none ∧ t.looks = io.op.looks ∧ DS P io.op T H nid t.d t.ws t.rd t.nw) ∨
   (∃ g b v, io.guard = some (g, b) ∧ T g = .bool v ∧ g ∈ t.looks ∧
     ((v = b ∧ t.looks = g :: io.op.looks ∧ DS P io.op T H nid t.d t.ws t.rd t.nw) ∨ (v ≠ b ∧ t.d = .tup [] ∧ t.ws = [] ∧ t.nw = none))))
section
variable {P : Program} {T T' : Tm} {H H' : Heap} {nid : Nat} {d : D} {ws : List (Nat × Option Blk)} {rd : List Nat} {nw : Option Nat} {op : IOp}
theorem DS.nw_spec (h : DS P op T H nid d ws rd nw) : nw.isSome = true → nw = some nid ∧ nid ∈ ws.map (·.1) ∧ H[nid]? = some none := by
  cases h <;> intro hs <;> first
    | (cases hs; done)
    | exact ⟨rfl, by simp, by assumption⟩
theorem callD_loc (hT : ∀ i ∈ op.looks, T i = T' i) : callD P op T = callD P op T' := by
  have he := ev_congr hT
  cases op <;> simp only [IOp.opds] at he <;> simp only [callD]
  case call f xs =>
    have h1 : xs.map (·.ev T) = xs.map (·.ev T') := List.map_congr_left fun x hx => he x hx
    rw [h1]
  case callv g xs =>
    have h1 : xs.map (·.ev T) = xs.map (·.ev T') := List.map_congr_left fun x hx => he x (by simp [hx])
    rw [h1, he g (by simp)]
  case inv x m xs =>
    have h1 : xs.map (·.ev T) = xs.map (·.ev T') := List.map_congr_left fun y hy => he y (by simp [hy])
    rw [h1, he x (by simp)]
theorem blk_of_get {H H' : Heap} {b : Nat} (h : H[b]? = H'[b]?) : blkOf H b = blkOf H' b := by unfold blkOf; rw [h]
theorem reads_congr (hT : ∀ i ∈ op.looks, T i = T' i) : op.reads T = op.reads T' := by
  have he := ev_congr hT
  cases op <;> simp only [IOp.opds] at he <;> simp only [IOp.reads] <;> first
    | rfl
    | (rw [he _ (by simp)]; done)
    | (rename_i x y; rw [he x (by simp), he y (by simp)])
theorem restr_get {H : Heap} {R : List Nat} {b : Nat} {blk : Blk} (h : blkOf (restr H R) b = some blk) : b ∈ R ∧ blkOf H b = some blk := by
  unfold blkOf restr at h
  rw [List.getElem?_map] at h
  by_cases hb : b < H.length
  · rw [List.getElem?_range hb] at h
    simp only [Option.map_some, Option.bind_some, id_eq] at h
    split at h
    · rename_i hc
      refine ⟨by simpa using hc, ?_⟩
      unfold blkOf
      rw [List.getElem?_eq_getElem hb] at h ⊢
      simpa using h
    · cases h
  · rw [List.getElem?_eq_none (by simpa using hb)] at h
    cases h
theorem restr_of {H : Heap} {R : List Nat} {b : Nat} {blk : Blk} (hR : b ∈ R) (h : blkOf H b = some blk) : blkOf (restr H R) b = some blk := by
  have hs := blkOf_some h
  have hb := (List.getElem?_eq_some_iff.1 hs).1
  unfold blkOf restr
  rw [List.getElem?_map, List.getElem?_range hb]
  simp [hR, hs]
mutual
theorem Lend.up (hb : ∀ b blk, blkOf H b = some blk → blkOf H' b = some blk) : ∀ {d d' : D}, Lend H d d' → Lend H' d d'
  | _, _, .pure h => .pure h
  | _, _, .osl h1 h2 h3 hf => .osl (hb _ _ h1) h2 (LendR.up hb h3) hf
  | _, _, .slw h hz hf => .slw h hz hf
  | _, _, .ptr h1 h2 h3 => .ptr (hb _ _ h1) h2 (LendL.up hb h3)
  | _, _, .agg h => .agg (LendL.up hb h)
  | _, _, .tup h => .tup (LendL.up hb h)
  | _, _, .iface h => .iface (Lend.up hb h)
  | _, _, .fn h k => .fn (LendL.up hb h) (LendL.up hb k)
theorem LendL.up (hb : ∀ b blk, blkOf H b = some blk → blkOf H' b = some blk) : ∀ {d d' : List D}, LendL H d d' → LendL H' d d'
  | _, _, .nil => .nil
  | _, _, .cons h k => .cons (Lend.up hb h) (LendL.up hb k)
theorem LendR.up (hb : ∀ b blk, blkOf H b = some blk → blkOf H' b = some blk) : ∀ {d d' : List (List D)}, LendR H d d' → LendR H' d d'
  | _, _, .pure h => .pure h
  | _, _, .nil => .nil
  | _, _, .cons h k => .cons (LendL.up hb h) (LendR.up hb k)
end
/-- What an operation does, it does wherever its operands and the blocks that it reads are the same. -/
theorem DS.loc (h : DS P op T H nid d ws rd nw) (hT : ∀ i ∈ op.looks, T i = T' i) (hH : ∀ b ∈ rd, H[b]? = H'[b]?) (hn : nw.isSome = true → H'[nid]? = some none) : DS P op T' H' nid d ws rd nw := by
  have hr := reads_congr hT
  cases h with
  | q h => rw [hr]; exact .q (by rw [← qstep_loc hT (fun b hb => blk_of_get (hH b hb))]; exact h)
  | qn h _ => rw [hr]; exact .qn (by rw [← qstep_loc hT (fun b hb => blk_of_get (hH b hb))]; exact h) (hn rfl)
  | e h => rw [hr]; exact .e (by rw [← ecore_loc hT (fun b hb => blk_of_get (hH b hb))]; exact h)
  | en h _ => rw [hr]; exact .en (by rw [← ecore_loc hT (fun b hb => blk_of_get (hH b hb))]; exact h) (hn rfl)
  | em h _ => rw [hr]; exact .em (by rw [← ecore_loc hT (fun b hb => blk_of_get (hH b hb))]; exact h) (hn rfl)
  | c h hc => exact .c (by rw [← callD_loc hT]; exact h) hc
  | cn h hc _ => exact .cn (by rw [← callD_loc hT]; exact h) hc (hn rfl)
  | cl R h hc hl hf => exact .cl _ (by rw [← callD_loc hT]; exact h) hc (LendL.up (fun b blk hb => by
      obtain ⟨h1, h2⟩ := restr_get hb
      exact restr_of h1 (by rw [← blk_of_get (hH b h1)]; exact h2)) hl) hf
end
section
variable {P : Program} {n : Nat} {H0 H : Heap} {s0 s : St} {T : Tm} {a : Act} {K : Tm → Heap → Prop} {X : Ex → Tm → Heap → Prop}
theorem AC.lend' {f : FuncId} {xs xs' : List D} {r : D} {H' : Heap} (h : Fn P f xs' r) (hl : LendL H' xs xs') (hr : flatD r = true) (hH : ∀ b blk, blkOf H' b = some blk → blkOf H b = some blk) (I : Inv H s) {vs : Array Value} (hvs : RepL s xs vs.toList) :
    Calls P f vs s.w fun e w => ∃ v s1, e = .returned v ∧ s1.w = w ∧ Inv H s1 ∧ Ext H s H s1 ∧ Rep s1 r v ∧ s1.ρ = s.ρ := by
  have I0 := bare_inv (s := s) (NI := fun _ _ => False) (fun _ _ h => h.elim)
  have V : View H s (s.bare fun _ _ => False) := ⟨I, rfl, fun _ _ h => h.elim⟩
  refine ((h.ac []).2 (s.bare fun _ _ => False) vs I0 (LendL.rep V (LendL.up hH hl) _ hvs)).mono fun e w ⟨v, r', H2, s2, h1, h2, h3, I2, E2, h4⟩ => ?_
  subst h1 h2
  obtain ⟨rfl, _⟩ := h3
  obtain ⟨k1, k2, k3⟩ := over_step I E2
  exact ⟨v, s.over s2.w, rfl, rfl, k1, k2, Rep.flat _ _ hr h4, rfl⟩
theorem ds_sound {o : Oper} {op : IOp} (hco : opOk P o op) {nid : Nat} {d : D} {ws : List (Nat × Option Blk)} {rd : List Nat} {nw : Option Nat} (h : DS P op T H nid d ws rd nw) (I : Inv H s) (hT : TRel s T a) (hfree : nw.isSome = true → s.ρ nid = none)
    {next : Act → World → Prop} {Q : Exit → Act → World → Prop}
    (hk : ∀ v s1, Inv (upW H ws) s1 → Ext H s (upW H ws) s1 → Rep s1 d v → (∀ b, nw ≠ some b → s1.ρ b = s.ρ b) → next (a.put o.dst v) s1.w) : o.wp P a s.w next Q := by
  rcases hco with hc | rfl
  rotate_left
  · cases h with
    | q h => cases h
    | qn h hn => cases h
    | e h => cases h
    | en h hn => cases h
    | em h hn => cases h
    | c h hc => cases h
    | cn h hc hn => cases h
    | cl R h hc hl hr => cases h
  cases h with
  | q h =>
    obtain ⟨v, s1, h1, h2, h3, h4, h5, _⟩ := q_sound hc hT I (reads_self H s) h (fun _ h => by cases h)
    unfold Oper.wp
    rw [h1]
    exact hk v s1 h2 h3 h4 (fun b _ => by rw [h5 rfl])
  | @qn d b h hn =>
    have hf := hfree rfl
    have hlt := (List.getElem?_eq_some_iff.1 hn).1
    obtain ⟨v, s1, h1, h2, h3, h4, _, h6⟩ := q_sound hc hT (I.place hf (some b)) (fun b1 bk1 hb hs => by
      rw [List.getElem?_set_ne (fun e => by subst e; rw [hn] at hb; cases hb)]; exact hb) h (fun blk hb => by cases hb; exact ⟨List.getElem?_set_self hlt, hf⟩)
    unfold Oper.wp
    rw [h1]
    exact hk v s1 h2 (h3.of_place hf hn) h4 (fun b hb => h6 b fun e => hb (by rw [e]))
  | @e d m h =>
    obtain ⟨r, v, s1, h1, h2, h3, h4, h5, h6⟩ := e_soundN hc hT I (fun h => by cases h) h
    unfold Oper.wp
    rw [h1]
    cases r <;> simp only [nextV] at h2 <;> first | (cases h2; done) | (cases h2; exact hk _ s1 h3 h4 h5 (fun b hb => h6 b fun e => by cases e))
  | @en d m b h hn =>
    obtain ⟨r, v, s1, h1, h2, h3, h4, h5, h6⟩ := e_soundN hc hT I (fun _ => ⟨hn, hfree rfl⟩) h
    unfold Oper.wp
    rw [h1]
    cases r <;> simp only [nextV] at h2 <;> first | (cases h2; done) | (cases h2; exact hk _ s1 h3 h4 h5 (fun b hb => h6 b fun _ e => hb (by rw [e])))
  | @em d b h hn =>
    obtain ⟨r, v, s1, h1, h2, h3, h4, h5, h6⟩ := e_soundN hc hT I (fun _ => ⟨hn, hfree rfl⟩) h
    unfold Oper.wp
    rw [h1]
    cases r <;> simp only [nextV] at h2 <;> first | (cases h2; done) | (cases h2; exact hk _ s1 h3 h4 h5 (fun b hb => h6 b fun _ e => hb (by rw [e])))
  | @c f xs r h hcc =>
    obtain ⟨vs, h1, h2⟩ := call_sound (s := s) hc hT h hcc.1
    unfold Oper.wp
    rw [h1]
    exact (hcc.2 H s vs 0 I h2 fun h => by cases h).mono fun e w ⟨v, s1, he, hw, h3, h4, h5, h6⟩ => by
      subst he hw
      exact hk v s1 h3 h4 h5 (fun b _ => h6 b fun h => by cases h)
  | @cn f xs d b h hcc hn =>
    obtain ⟨vs, h1, h2⟩ := call_sound (s := s) hc hT h hcc.1
    unfold Oper.wp
    rw [h1]
    exact (hcc.2 H s vs nid I h2 fun _ => ⟨hn, hfree rfl⟩).mono fun e w ⟨v, s1, he, hw, h3, h4, h5, h6⟩ => by
      subst he hw
      exact hk v s1 h3 h4 h5 (fun b hb => h6 b fun _ e => hb (by rw [e]))
  | @cl f xs xs' r R h hcc hl hr =>
    obtain ⟨vs, h1, h2⟩ := call_sound (s := s) hc hT h hcc.1
    unfold Oper.wp
    rw [h1]
    exact (AC.lend' hcc hl hr (fun b blk hb => (restr_get hb).2) I h2).mono fun e w ⟨v, s1, he, hw, h3, h4, h5, h6⟩ => by
      subst he hw
      exact hk v s1 h3 h4 h5 (fun b _ => by rw [h6])
end
end Go.Proofs.Ytlagfebklcaaeaa

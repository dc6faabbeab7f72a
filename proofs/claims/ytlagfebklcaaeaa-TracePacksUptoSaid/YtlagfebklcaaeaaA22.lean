/- A value-level machine over the model, part 22: stepping through code. -/
import Derived.Test.YtlagfebklcaaeaaA21
namespace Go.Proofs.Ytlagfebklcaaeaa
set_option linter.all false

/-- Text by its bytes. -/
def B (l : List Nat) : ByteArray := ⟨(l.map UInt8.ofNat).toArray⟩

section
variable {P : Program} {n : Nat} {H : Heap} {T : Tm} {K : Tm → Heap → Prop} {X : Ex → Tm → Heap → Prop} {l : List IQ} {dst : Option Nat} {op : IOp} {d : D}
theorem put_at (T : Tm) (i j : Nat) (d : D) : put T (some i) d j = if j = i then d else T j := rfl
theorem put_none (T : Tm) (d : D) : put T none d = T := rfl
theorem pushB_none (H : Heap) : pushB H none = H := rfl
theorem pushB_some (H : Heap) (b : Blk) : pushB H (some b) = H ++ [some b] := rfl
theorem modH_none (H : Heap) : modH H none = H := rfl
theorem modH_some (H : Heap) (b : Nat) (x : Option Blk) : modH H (some (b, x)) = H.set b x := rfl
theorem blkOf_lt {b : Nat} {x : Blk} (h : blkOf H b = some x) : b < H.length := (List.getElem?_eq_some_iff.1 (blkOf_some h)).1
theorem blkOf_new (H : Heap) (x : Blk) : blkOf (H ++ [some x]) H.length = some x := by simp [blkOf]
theorem blkOf_old {b : Nat} {o : Option Blk} (h : b < H.length) : blkOf (H ++ [o]) b = blkOf H b := by simp [blkOf, List.getElem?_append_left h]
theorem blkOf_set_same {b : Nat} {v : Option Blk} (h : b < H.length) : blkOf (H.set b v) b = v := by simp [blkOf, h]
theorem blkOf_set_ne {b c : Nat} {v : Option Blk} (h : b ≠ c) : blkOf (H.set b v) c = blkOf H c := by simp [blkOf, List.getElem?_set_ne h]

theorem set_new (H : Heap) (x y : Option Blk) : (H ++ [x]).set H.length y = H ++ [y] := by
  rw [List.set_append_right _ _ (Nat.le_refl _), Nat.sub_self, List.set_cons_zero]
theorem iasD_sl {z : Nat} {f : Bool} {es : List (List D)} {i : Nat} {c : List D} (h : es[i]? = some c) : iasD H z (i : Int) (.sl z f es) = some (.iptr c 0) := by
  have hi := (List.getElem?_eq_some_iff.1 h).1
  have e : es.getD i [] = c := by rw [List.getD_eq_getElem?_getD, h]; rfl
  have c1 : (0 : Int) ≤ i ∧ (i : Int) < es.length ∧ z = z := ⟨by omega, by omega, rfl⟩
  show (if 0 ≤ (i : Int) ∧ (i : Int) < es.length ∧ z = z then some (D.iptr (es.getD (i : Int).toNat []) 0) else none) = _
  rw [if_pos c1, Int.toNat_natCast, e]
theorem iasD_osl {z b o m i : Nat} {f : Bool} {blk : Blk} (hb : blkOf H b = some blk) (hz : blk.sz = z) (h : i < m) : iasD H z (i : Int) (.osl b o m f) = some (.ptr b (o + i) 0) := by
  have c1 : (0 : Int) ≤ i ∧ (i : Int) < m ∧ szOk H z (.osl b o m f) = true := ⟨by omega, by omega, by simp [szOk, hb, hz]⟩
  simp only [iasD, if_pos c1, Int.toNat_natCast]
theorem ROps.q {nb : Option Blk} (h : qstep op T H H.length = some (d, nb)) (k : ROps P l (put T dst d) (pushB H nb) K) : ROps P (⟨dst, none, op⟩ :: l) T H K := by
  simp only [ROps]; exact .q h k
theorem ROps.q0 (h : qstep op T H H.length = some (d, none)) (k : ROps P l (put T dst d) H K) : ROps P (⟨dst, none, op⟩ :: l) T H K := ROps.q h k
theorem ROps.e {H1 : Heap} (h : estep op T H = some (d, H1)) (k : ROps P l (put T dst d) H1 K) : ROps P (⟨dst, none, op⟩ :: l) T H K := by
  simp only [ROps]; exact .e h k
theorem ROps.c {f : FuncId} {xs : List D} {Q : D → Heap → Prop} (h : callD P op T = some (f, xs)) (hc : AC P f H xs Q) (k : ∀ r H1, Q r H1 → ROps P l (put T dst r) H1 K) : ROps P (⟨dst, none, op⟩ :: l) T H K := by
  simp only [ROps]; exact .c h hc k
theorem ROps.f {f : FuncId} {xs : List D} {r : D} (h : callD P op T = some (f, xs)) (hc : Fn P f xs r) (k : ROps P l (put T dst r) H K) : ROps P (⟨dst, none, op⟩ :: l) T H K :=
  ROps.c h (hc.ac H) fun _ _ e => by obtain ⟨rfl, rfl⟩ := e; exact k
theorem ROps.isn {neq : Bool} {x : Opd} {m : Nat} (hl : lenD (x.ev T) = some m) (k : ∀ b, (0 < m → b = false) → ROps P l (put T dst (.bool (if neq then !b else b))) H K) : ROps P (⟨dst, none, .isnil neq x⟩ :: l) T H K := by
  simp only [ROps]; exact .n rfl hl k
theorem ROps.nil (k : K T H) : ROps P [] T H K := k
theorem ROps.gt {t : Nat} {b : Bool} (h : T t = .bool b) (k : ROps P (⟨dst, none, op⟩ :: l) T H K) : ROps P (⟨dst, some (t, b), op⟩ :: l) T H K := by
  simp only [ROps] at k ⊢
  exact .inl ⟨b, h, fun _ => k, fun e => absurd rfl e⟩
theorem ROps.gn {t : Nat} {b : Bool} (h : T t = .tup []) (k : ROps P l (put T dst (.tup [])) H K) : ROps P (⟨dst, some (t, b), op⟩ :: l) T H K := by
  simp only [ROps]
  exact .inr ⟨h, k⟩
theorem ROps.gf {t : Nat} {b v : Bool} (h : T t = .bool v) (hv : v ≠ b) (k : ROps P l (put T dst (.tup [])) H K) : ROps P (⟨dst, some (t, b), op⟩ :: l) T H K := by
  simp only [ROps]
  exact .inl ⟨v, h, fun e => absurd e hv, fun _ => k⟩

/-! ### Regions that draw their order and write nothing -/
def QRun (P : Program) : List IQ → Tm → Heap → (Tm → Heap → Prop) → Prop
  | [], T, H, K => K T H
  | o :: l, T, H, K =>
    let run := ∃ d, (qstep o.op T H H.length = some (d, none) ∨ (∃ f xs, callD P o.op T = some (f, xs) ∧ Fn P f xs d) ∨ (∃ f xs xs' R, callD P o.op T = some (f, xs) ∧ Fn P f xs' d ∧ LendL (restr H R) xs xs' ∧ flatD d = true)) ∧ QRun P l (put T o.dst d) H K
    match o.guard with
    | none => run
    | some (t, b) => ∃ v, T t = .bool v ∧ (v = b → run) ∧ (v ≠ b → QRun P l (put T o.dst (.tup [])) H K)
theorem QRun.q (h : qstep op T H H.length = some (d, none)) (k : QRun P l (put T dst d) H K) : QRun P (⟨dst, none, op⟩ :: l) T H K := by
  simp only [QRun]; exact ⟨d, .inl h, k⟩
theorem QRun.f {f : FuncId} {xs : List D} (h : callD P op T = some (f, xs)) (hc : Fn P f xs d) (k : QRun P l (put T dst d) H K) : QRun P (⟨dst, none, op⟩ :: l) T H K := by
  simp only [QRun]; exact ⟨d, .inr (.inl ⟨f, xs, h, hc⟩), k⟩
theorem QRun.fl {f : FuncId} {xs xs' : List D} (R : List Nat) (h : callD P op T = some (f, xs)) (hc : Fn P f xs' d) (hl : LendL (restr H R) xs xs') (hr : flatD d = true) (k : QRun P l (put T dst d) H K) : QRun P (⟨dst, none, op⟩ :: l) T H K := by
  simp only [QRun]; exact ⟨d, .inr (.inr ⟨f, xs, xs', R, h, hc, hl, hr⟩), k⟩
theorem QRun.gt {t : Nat} {b : Bool} (h : T t = .bool b) (k : QRun P (⟨dst, none, op⟩ :: l) T H K) : QRun P (⟨dst, some (t, b), op⟩ :: l) T H K := by
  simp only [QRun] at k ⊢
  exact ⟨b, h, fun _ => k, fun e => absurd rfl e⟩
theorem QRun.gf {t : Nat} {b v : Bool} (h : T t = .bool v) (hv : v ≠ b) (k : QRun P l (put T dst (.tup [])) H K) : QRun P (⟨dst, some (t, b), op⟩ :: l) T H K := by
  simp only [QRun]
  exact ⟨v, h, fun e => absurd e hv, fun _ => k⟩
theorem QRun.nil (k : K T H) : QRun P [] T H K := k
def sTE (o : IQ) : TE := ⟨o.dst, (match o.guard with | some (t, _) => [t] | none => []) ++ o.op.looks, .tup [], [], [], none⟩
/-- Is a trace no more than the text says? -/
def Under (t : TE) (o : IQ) : Prop := t.dst = o.dst ∧ (∀ x ∈ t.looks, x ∈ (sTE o).looks) ∧ t.ws = []
theorem notIn_mono {o : Option Nat} {l l' : List Nat} (h : notIn o l' = true) (hl : ∀ x ∈ l, x ∈ l') : notIn o l = true := by
  cases o with
  | none => rfl
  | some i => simp only [notIn, Bool.not_eq_true', List.contains_eq_mem, decide_eq_false_iff_not] at h ⊢; exact fun hi => h (hl i hi)
theorem apart_under {a b : TE} {x y : IQ} (ha : Under a x) (hb : Under b y) (h : (sTE x).apart (sTE y) = true) : a.apart b = true := by
  obtain ⟨a1, a2, a3⟩ := ha
  obtain ⟨b1, b2, b3⟩ := hb
  simp only [TE.apart, Bool.and_eq_true] at h ⊢
  obtain ⟨⟨⟨⟨h1, h2⟩, h3⟩, _⟩, _⟩ := h
  refine ⟨⟨⟨⟨notIn_mono (by rw [a1]; exact h1) b2, by rw [a1, b1]; exact h2⟩, notIn_mono (by rw [b1]; exact h3) a2⟩, by simp [TE.ids, a3]⟩, by simp [TE.ids, b3]⟩
theorem pairs_under {bs : List (List Nat)} {ops : List IQ} {acc : List TE} (hs : pairsOk bs (ops.map sTE) = true) (hlen : acc.length = ops.length) (h : ∀ (i : Nat) (t : TE) (o : IQ), acc[i]? = some t → ops[i]? = some o → Under t o) : pairsOk bs acc = true := by
  simp only [pairsOk, List.all_eq_true, List.mem_range, List.length_map, Bool.or_eq_true] at hs ⊢
  intro j hj i hi
  rcases hs j (by omega) i hi with h1 | h1
  · exact .inl h1
  · right
    have ei : acc[i]? = some (acc[i]'(by omega)) := List.getElem?_eq_getElem (by omega)
    have ej : acc[j]? = some (acc[j]'(by omega)) := List.getElem?_eq_getElem (by omega)
    have oi : ops[i]? = some (ops[i]'(by omega)) := List.getElem?_eq_getElem (by omega)
    have oj : ops[j]? = some (ops[j]'(by omega)) := List.getElem?_eq_getElem (by omega)
    rw [List.getElem?_map, List.getElem?_map, oi, oj] at h1
    rw [ei, ej]
    exact apart_under (h i _ _ ei oi) (h j _ _ ej oj) h1
theorem QRun.drun {bs : List (List Nat)} : ∀ {ops : List IQ} {T : Tm} {pre : List IQ} {acc : List TE} {nid : Nat}, H.length = nid → pairsOk bs ((pre ++ ops).map sTE) = true → acc.length = pre.length →
    (∀ (i : Nat) (t : TE) (o : IQ), acc[i]? = some t → pre[i]? = some o → Under t o) → QRun P ops T H K → DRun P bs ops T H nid acc K
  | [], T, pre, acc, nid, hn, hs, hl, hu, h => by
    simp only [DRun]
    exact ⟨pairs_under (ops := pre) (by simpa using hs) hl hu, h⟩
  | o :: ops, T, pre, acc, nid, hn, hs, hl, hu, h => by
    have more : ∀ (t : TE), Under t o → ∀ (i : Nat) (t' : TE) (o' : IQ), (acc ++ [t])[i]? = some t' → (pre ++ [o])[i]? = some o' → Under t' o' := by
      intro t ht i t' o' h1 h2
      by_cases hi : i < acc.length
      · rw [List.getElem?_append_left hi] at h1
        rw [List.getElem?_append_left (by omega)] at h2
        exact hu i t' o' h1 h2
      · have e : i = acc.length := by
          have := (List.getElem?_eq_some_iff.1 h1).1
          simp at this
          omega
        subst e
        simp at h1
        rw [hl] at h2
        simp at h2
        subst h1 h2
        exact ht
    have go : ∀ (lk : List Nat), (∀ x ∈ lk, x ∈ (sTE o).looks) → (∃ d, (qstep o.op T H H.length = some (d, none) ∨ (∃ f xs, callD P o.op T = some (f, xs) ∧ Fn P f xs d) ∨ (∃ f xs xs' R, callD P o.op T = some (f, xs) ∧ Fn P f xs' d ∧ LendL (restr H R) xs xs' ∧ flatD d = true)) ∧ QRun P ops (put T o.dst d) H K) →
        ∃ d ws rd nw, DS P o.op T H nid d ws rd nw ∧ DRun P bs ops (put T o.dst d) (upW H ws) (if nw.isSome then nid + 1 else nid) (acc ++ [⟨o.dst, lk, d, ws, rd, nw⟩]) K := by
      intro lk hlk ⟨d, hd, hk⟩
      have recur : ∀ (rd : List Nat), DRun P bs ops (put T o.dst d) H nid (acc ++ [⟨o.dst, lk, d, [], rd, none⟩]) K := fun rd =>
        QRun.drun (pre := pre ++ [o]) hn (by simpa using hs) (by simp [hl]) (more _ ⟨rfl, hlk, rfl⟩) hk
      rcases hd with hd | ⟨f, xs, h1, h2⟩ | ⟨f, xs, xs', R, h1, h2, h3, h4⟩
      · exact ⟨d, [], _, none, .q (by rw [← hn]; exact hd), recur _⟩
      · exact ⟨d, [], _, none, .c h1 h2, recur _⟩
      · exact ⟨d, [], _, none, .cl R h1 h2 h3 h4, recur _⟩
    simp only [QRun] at h
    simp only [DRun]
    cases hg : o.guard with
    | none =>
      simp only [hg] at h
      exact go o.op.looks (fun x hx => by simp [sTE, hg, hx]) h
    | some p =>
      obtain ⟨t, b⟩ := p
      simp only [hg] at h
      obtain ⟨v, hv, h1, h2⟩ := h
      refine ⟨v, hv, fun e => go (t :: o.op.looks) (fun x hx => by simpa [sTE, hg] using hx) (h1 e), fun e => ?_⟩
      exact QRun.drun (pre := pre ++ [o]) hn (by simpa using hs) (by simp [hl]) (more _ ⟨rfl, fun x hx => by simp at hx; simp [sTE, hg, hx], rfl⟩) (h2 e)
theorem IW.dquiet {bs : List (List Nat)} {ops : List IQ} (hs : pairsOk bs (ops.map sTE) = true) (h : QRun P ops T H K) : IW P n (.dregion bs ops) T H K X :=
  IW.dregion 0 (by simpa using QRun.drun (pre := []) rfl (by simpa using hs) rfl (fun i t o h => by simp at h) h)

/-! ### A nil slice may be taken for an own one -/
theorem own_step {H0 : Heap} {s0 s : St} {a : Act} {i : Nat} {z : Nat} (e : TypeId) (sz : Nat) (hT : T i = .sl z true []) (h : Now n H0 s0 T H s a) :
    ∃ s1, s1.w = s.w ∧ Now n H0 s0 (put T (some i) (.osl H.length 0 0 true)) (H ++ [some ⟨e, sz, [], 0⟩]) s1 a := by
  have I := h.inv
  have hr : s.ρ H.length = none := by
    cases hc : s.ρ H.length with
    | none => rfl
    | some l => exact absurd (I.dom _ _ hc) (Nat.lt_irrefl _)
  let s1 : St := ⟨s.w, fun b => if b = H.length then some ⟨none, 0, sz⟩ else s.ρ b, s.NI⟩
  have M : Mono s s1 := ⟨fun _ _ _ h _ => h, fun _ _ _ _ h => h, fun b l hb => by
    show (if b = H.length then _ else s.ρ b) = some l
    rw [if_neg (fun e => by rw [e, hr] at hb; cases hb)]; exact hb, fun _ _ h => h⟩
  have hget : ∀ {b : Nat} {x : Option Blk}, (H ++ [some ⟨e, sz, [], 0⟩])[b]? = some x → (b = H.length ∧ x = some ⟨e, sz, [], 0⟩) ∨ (b ≠ H.length ∧ H[b]? = some x) := by
    intro b x hb
    by_cases hlt : b < H.length
    · rw [List.getElem?_append_left hlt] at hb
      exact .inr ⟨by omega, hb⟩
    · have : b = H.length := by
        have := (List.getElem?_eq_some_iff.1 hb).1
        simp at this
        omega
      subst this
      simp at hb
      exact .inl ⟨rfl, hb.symm⟩
  have hρ : ∀ {b : Nat} {l : Loc}, s1.ρ b = some l → (b = H.length ∧ l = ⟨none, 0, sz⟩) ∨ (b ≠ H.length ∧ s.ρ b = some l) := by
    intro b l hb
    have hb' : (if b = H.length then some ⟨none, 0, sz⟩ else s.ρ b) = some l := hb
    by_cases e1 : b = H.length
    · rw [if_pos e1] at hb'; exact .inl ⟨e1, (Option.some.inj hb').symm⟩
    · rw [if_neg e1] at hb'; exact .inr ⟨e1, hb'⟩
  have hwr : ∀ c o, Wr (H ++ [some ⟨e, sz, [], 0⟩]) s1.ρ c o → Wr H s.ρ c o := by
    rintro c o ⟨b, blk, l, h1, h2, h3, h4⟩
    rcases hρ h2 with ⟨rfl, rfl⟩ | ⟨e1, h2'⟩
    · cases h3
    · rcases hget h1 with ⟨e2, _⟩ | ⟨_, h1'⟩
      · exact absurd e2 e1
      · exact ⟨b, blk, l, h1', h2', h3, h4⟩
  have I1 : Inv (H ++ [some ⟨e, sz, [], 0⟩]) s1 := by
    refine ⟨fun b l hb => ?_, fun b blk l hb hl => ?_, fun b b' blk blk' l l' c hb hb' hl hl' hc hc' => ?_, fun c o hw => I.cov c o (hwr c o hw), I.lim⟩
    · rcases hρ hb with ⟨rfl, _⟩ | ⟨_, h2⟩
      · simp
      · have := I.dom b l h2; simp; omega
    · rcases hρ hl with ⟨rfl, rfl⟩ | ⟨e1, h2⟩
      · rcases hget hb with ⟨_, e2⟩ | ⟨e2, _⟩
        · cases e2
          exact ⟨rfl, fun _ => rfl, fun c hc => by cases hc⟩
        · exact absurd rfl e2
      · rcases hget hb with ⟨e2, _⟩ | ⟨_, h1⟩
        · exact absurd e2 e1
        · have hbr := I.rel b blk l h1 h2
          exact hbr.mono M fun c hc => by obtain ⟨cs, hcs, _⟩ := hbr.row c hc; rfl
    · rcases hρ hl with ⟨rfl, rfl⟩ | ⟨e1, h2⟩
      · cases hc
      · rcases hρ hl' with ⟨rfl, rfl⟩ | ⟨e1', h2'⟩
        · cases hc'
        · rcases hget hb with ⟨e2, _⟩ | ⟨_, h1⟩
          · exact absurd e2 e1
          · rcases hget hb' with ⟨e2, _⟩ | ⟨_, h1'⟩
            · exact absurd e2 e1'
            · exact I.inj b b' blk blk' l l' c h1 h1' h2 h2' hc hc'
  have E1 : Ext H s (H ++ [some ⟨e, sz, [], 0⟩]) s1 := ⟨Nat.le_refl _, rfl, rfl, rfl, fun _ _ _ _ => rfl, fun _ _ _ => rfl, fun _ _ => rfl, M.rho, fun c o hw => .inl (hwr c o hw), fun _ _ h => .inl h, fun _ _ h => .inl h⟩
  refine ⟨s1, rfl, h.inv0, h.ext.trans h.inv0 E1, I1, h.defers, h.size, fun j => ?_⟩
  simp only [put_at]
  by_cases ej : j = i
  · subst ej
    rw [if_pos rfl]
    have := h.rel j
    rw [hT] at this
    simp only [Rep, List.length_nil] at this ⊢
    obtain ⟨ad, cap, hv, _, hcap, _⟩ := this
    have hc0 := hcap trivial
    subst hc0
    exact ⟨⟨none, 0, sz⟩, 0, by show (if H.length = H.length then _ else _) = _; rw [if_pos rfl], Nat.le_refl _, fun _ => rfl, .inl ⟨trivial, rfl, ad, hv⟩⟩
  · rw [if_neg ej]
    exact (h.rel j).mono M
theorem IW.own {x : IC} (i : Nat) (e : TypeId) (sz : Nat) {z : Nat} (hT : T i = .sl z true []) (h : IW P n x (put T (some i) (.osl H.length 0 0 true)) (H ++ [some ⟨e, sz, [], 0⟩]) K X) : IW P n x T H K X := by
  intro c hc H0 s0 s a hN
  obtain ⟨s1, hw, hN1⟩ := own_step e sz hT hN
  rw [← hw]
  exact h c hc H0 s0 s1 a hN1
end
end Go.Proofs.Ytlagfebklcaaeaa

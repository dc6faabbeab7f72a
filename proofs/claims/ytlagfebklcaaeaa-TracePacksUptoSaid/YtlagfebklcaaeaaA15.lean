/- A value-level machine over the model, part 15: the rules of code and of calls are sound. -/
import Derived.Test.YtlagfebklcaaeaaA14
namespace Go.Proofs.Ytlagfebklcaaeaa
set_option linter.all false
section
variable {P : Program} {n : Nat} {H0 H : Heap} {s0 s : St} {T : Tm} {a : Act} {K K' : Tm → Heap → Prop} {X X' : Ex → Tm → Heap → Prop}

theorem reads_self (H : Heap) (s : St) : Reads H H s := fun _ _ h _ => h
theorem stp_sound {o : Oper} {op : IOp} (hco : opOk P o op) {KD : D → Heap → Prop} (h : Stp P op T H KD) (hN : Now n H0 s0 T H s a) {next : Act → World → Prop} {Q : Exit → Act → World → Prop}
    (hk : ∀ d v H1 s1, KD d H1 → Inv H1 s1 → Ext H s H1 s1 → Rep s1 d v → next (a.put o.dst v) s1.w) : o.wp P a s.w next Q := by
  rcases hco with hc | rfl
  rotate_left
  · cases h with
    | q h k => cases h
    | e h k => cases h
    | c h hc k => cases h
    | n h hl k => cases h
  cases h with
  | @n neq x m h hl k =>
    subst h
    obtain ⟨b, hb, h1⟩ := isnil_sound (s := s) hc hN.rel hl
    unfold Oper.wp
    rw [h1]
    exact hk _ _ H s (k b hb) hN.inv .refl (by simp only [Rep])
  | @q d nb h k =>
    have hfree := rho_none hN.inv (Nat.le_refl H.length)
    cases nb with
    | none =>
      obtain ⟨v, s1, h1, h2, h3, h4, _⟩ := q_sound hc hN.rel hN.inv (reads_self H s) h (fun _ h => by cases h)
      unfold Oper.wp
      rw [h1]
      exact hk d v H s1 k h2 h3 h4
    | some b =>
      have I' := hN.inv.more [some b]
      obtain ⟨v, s1, h1, h2, h3, h4, _⟩ := q_sound hc hN.rel I' (fun b1 bk1 hb _ => by rw [List.getElem?_append_left ((List.getElem?_eq_some_iff.1 hb).1)]; exact hb) h (fun blk hb => by cases hb; exact ⟨by simp, hfree⟩)
      unfold Oper.wp
      rw [h1]
      exact hk d v _ s1 k h2 (h3.of_more hN.inv) h4
  | @e d H1 h k =>
    obtain ⟨r, v, s1, h1, h2, h3, h4, h5⟩ := e_sound hc hN.rel hN.inv h
    unfold Oper.wp
    rw [h1]
    cases r <;> simp only [nextV] at h2 <;> first | (cases h2; done) | (cases h2; exact hk d _ H1 s1 k h3 h4 h5)
  | @c f xs Q' h hc' k =>
    obtain ⟨hb, hcalls⟩ := hc'
    obtain ⟨vs, h1, h2⟩ := call_sound (s := s) hc hN.rel h hb
    unfold Oper.wp
    rw [h1]
    exact (hcalls s vs hN.inv h2).mono fun e w ⟨v, r, H1, s1, he, hw, hq, h3, h4, h5⟩ => by
      subst he hw
      exact hk r v H1 s1 (k r H1 hq) h3 h4 h5
theorem cIO_spec {ops : Array Oper} {o : Oper} {io : IQ} (h : cIO P n ops o = some io) : opOk P o io.op ∧ io.dst = o.dst ∧ (∀ i, o.dst = some i → i < n) ∧
    ((o.guard = none ∧ io.guard = none) ∨ ∃ j b t, o.guard = some (j, b) ∧ io.guard = some (t, b) ∧ (ops[j]?).bind (·.dst) = some t) := by
  unfold cIO at h
  split at h
  · rename_i g h2
    split at h
    · rename_i hd
      cases h
      have hop : opOk P o ((cOp P o).getD .dead) := by
        unfold opOk
        cases cOp P o with
        | none => exact .inr rfl
        | some x => exact .inl rfl
      refine ⟨hop, rfl, fun i hi => by simpa [hi, dstOk] using hd, ?_⟩
      split at h2
      · rename_i hg
        cases h2
        exact .inl ⟨hg, rfl⟩
      · rename_i j b hg
        simp only [Option.map_eq_some_iff] at h2
        obtain ⟨t, ht, rfl⟩ := h2
        exact .inr ⟨j, b, t, hg, rfl, ht⟩
    · cases h
  · cases h
theorem wanted_some {ops : Array Oper} {j t : Nat} {b v : Bool} (ht : (ops[j]?).bind (·.dst) = some t) (h : Rep s (T t) (a.tmps.getD t undef)) (hv : T t = .bool v) (hT : t < a.tmps.size) (o : Oper) (ho : o.guard = some (j, b)) :
    Region.wanted o (yielded ops a.tmps) = (v == b) := by
  rw [hv] at h
  have h1 := rep_bool h
  have h2 : a.tmps[t]? = some (.bool v) := by
    rw [Array.getD_eq_getD_getElem?, Array.getElem?_eq_getElem hT] at h1
    rw [Array.getElem?_eq_getElem hT]
    exact congrArg some h1
  simp only [Region.wanted, ho, yielded, ht, Option.bind_some, h2]
  cases v <;> cases b <;> rfl
theorem wanted_tup {ops : Array Oper} {j t : Nat} {b : Bool} (ht : (ops[j]?).bind (·.dst) = some t) (h : Rep s (.tup []) (a.tmps.getD t undef)) (o : Oper) (ho : o.guard = some (j, b)) : Region.wanted o (yielded ops a.tmps) = false := by
  simp only [Region.wanted, ho, yielded, ht, Option.bind_some]
  cases hc : a.tmps[t]? with
  | none => rfl
  | some v =>
    rw [Array.getD_eq_getD_getElem?, hc] at h
    simp only [Rep, Option.getD_some] at h
    obtain ⟨vs, rfl, _⟩ := h
    rfl
theorem wanted_none {ops : Array Oper} {o : Oper} (ho : o.guard = none) (tmps : Array Value) : Region.wanted o (yielded ops tmps) = true := by simp [Region.wanted, ho]
theorem bool_size {t : Nat} {v : Bool} (h : TRel s T a) (hv : T t = .bool v) : t < a.tmps.size := by
  have := h t
  rw [hv] at this
  have h1 := rep_bool this
  refine Nat.lt_of_not_le fun hle => ?_
  rw [Array.getD_eq_getD_getElem?, Array.getElem?_eq_none hle] at h1
  cases h1
theorem rops_sound {ops : Array Oper} : ∀ (l : List IQ) (k : Nat) (T : Tm) (H : Heap) (s : St) (a : Act), optAll (cIO P n ops) (ops.toList.drop k) = some l → ROps P l T H K → Now n H0 s0 T H s a →
    wpOps P ops (Pst n H0 s0 K X) (List.range' k l.length) a s.w
  | [], k, T, H, s, a, hl, hr, hN => ⟨T, H, s, rfl, hN, hr⟩
  | io :: l, k, T, H, s, a, hl, hr, hN => by
    rw [List.length_cons, List.range'_succ, wpOps_cons]
    have hk : ∃ o, ops[k]? = some o ∧ cIO P n ops o = some io ∧ optAll (cIO P n ops) (ops.toList.drop (k + 1)) = some l := by
      cases hd : ops.toList.drop k with
      | nil => rw [hd] at hl; simp [optAll] at hl
      | cons o rest =>
        rw [hd] at hl
        simp only [optAll] at hl
        split at hl
        · rename_i x m hx hm
          cases hl
          have ho : (ops.toList.drop k)[0]? = some o := by rw [hd]; rfl
          rw [List.getElem?_drop, Nat.add_zero, Array.getElem?_toList] at ho
          refine ⟨o, ho, hx, ?_⟩
          have : ops.toList.drop (k + 1) = rest := by rw [← List.drop_drop, hd]; rfl
          rw [this]; exact hm
        · cases hl
    obtain ⟨o, ho, hio, hrest⟩ := hk
    obtain ⟨c1, c2, c3, c4⟩ := cIO_spec hio
    have go : ∀ (h : Stp P io.op T H fun d H1 => ROps P l (put T io.dst d) H1 K), o.wp P a s.w (wpOps P ops (Pst n H0 s0 K X) (List.range' (k + 1) l.length)) (Pst n H0 s0 K X) := fun h =>
      stp_sound c1 h hN fun d v H1 s1 hd I E hv => rops_sound l (k + 1) _ _ s1 _ hrest (by rw [← c2]; exact hd) (hN.step I E hv c3)
    unfold wpOp
    rw [ho]
    rcases c4 with ⟨g1, g2⟩ | ⟨j, b, t, g1, g2, g3⟩
    · simp only [wanted_none g1, if_true]
      simp only [ROps, g2] at hr
      exact .inl (go hr)
    · simp only [ROps, g2] at hr
      rcases hr with ⟨v, hv, h1, h2⟩ | ⟨hv, h2⟩
      rotate_left
      · have hw := hN.rel t
        rw [hv] at hw
        simp only [wanted_tup g3 hw o g1, Bool.false_eq_true, if_false]
        refine rops_sound l (k + 1) _ _ s _ hrest ?_ (hN.step hN.inv .refl rep_undef c3)
        rw [← c2]; exact h2
      simp only [wanted_some g3 (hN.rel t) hv (bool_size hN.rel hv) o g1]
      by_cases e : v = b
      · subst e
        simp only [beq_self_eq_true, if_true]
        exact .inl (go (h1 rfl))
      · have : (v == b) = false := by simpa using e
        simp only [this, Bool.false_eq_true, if_false]
        refine rops_sound l (k + 1) _ _ s _ hrest ?_ (hN.step hN.inv .refl rep_undef c3)
        rw [← c2]; exact h2 e

theorem IW.skip (h : K T H) : IW P n .skip T H K X := by
  intro c hc H0 s0 s a hN
  cases c <;> simp only [cCode] at hc <;> first
    | exact wp_skip ⟨T, H, s, rfl, hN, h⟩
    | ((repeat' (split at hc)) <;> first | cases hc | (simp only [Option.map_eq_some_iff] at hc; obtain ⟨_, _, hc⟩ := hc; cases hc))
theorem cCode_region {id : Nat} {os : Array Oper} {draw : Bool} {ic : IC} (hc : cCode P n (.region id os draw) = some ic) : ∃ l, optAll (cIO P n os) os.toList = some l ∧
    ((draw = false ∧ ic = .region l) ∨ (draw = true ∧ backOk os.toList = true ∧ P.follows .mixedOrders = true ∧ ic = .dregion (befs os.toList) l)) := by
  simp only [cCode] at hc
  split at hc
  · rename_i l hl
    refine ⟨l, hl, ?_⟩
    cases draw with
    | false => simp at hc; exact .inl ⟨rfl, hc.symm⟩
    | true =>
      simp at hc
      exact .inr ⟨rfl, hc.1.1, hc.1.2, hc.2.symm⟩
  · cases hc
theorem IW.region {ops : List IQ} (h : ROps P ops T H K) : IW P n (.region ops) T H K X := by
  intro c hc H0 s0 s a hN
  cases c with
  | region id os draw =>
    obtain ⟨l, hl, ⟨rfl, he⟩ | ⟨_, _, _, he⟩⟩ := cCode_region hc
    · cases he
      refine wp_region ?_
      have := rops_sound (X := X) ops 0 T H s a hl h hN
      have hlen : ops.length = os.size := by simpa using (optAll_spec hl).1
      rwa [hlen, ← List.range_eq_range'] at this
    · cases he
  | _ => simp only [cCode] at hc; (repeat' (split at hc)) <;> first | cases hc | (simp only [Option.map_eq_some_iff] at hc; obtain ⟨_, _, hc⟩ := hc; cases hc)
theorem IW.seq {x y : IC} (h : IW P n x T H (fun T1 H1 => IW P n y T1 H1 K X) X) : IW P n (.seq x y) T H K X := by
  intro c hc H0 s0 s a hN
  cases c with
  | seq c1 c2 =>
    simp only [cCode] at hc
    split at hc
    · rename_i x' y' h1 h2
      cases hc
      refine wp_seq (wp_mono (h c1 h1 H0 s0 s a hN) ?_)
      intro e a' w' hq
      obtain ⟨T1, H1, s1, rfl, hN1, hk⟩ := hq
      cases e with
      | normal => exact hk c2 h2 H0 s0 s1 a' hN1
      | exit id => exact ⟨T1, H1, s1, rfl, hN1, hk⟩
      | ret => exact ⟨T1, H1, s1, rfl, hN1, hk⟩
      | _ => exact hk.elim
    · cases hc
  | _ => simp only [cCode] at hc; (repeat' (split at hc)) <;> first | cases hc | (simp only [Option.map_eq_some_iff] at hc; obtain ⟨_, _, hc⟩ := hc; cases hc)
theorem IW.cond {c : Opd} {x y : IC} {b : Bool} (hb : c.ev T = .bool b) (h1 : b = true → IW P n x T H K X) (h2 : b = false → IW P n y T H K X) : IW P n (.cond c x y) T H K X := by
  intro cd hc H0 s0 s a hN
  cases cd with
  | cond cc c1 c2 =>
    simp only [cCode] at hc
    split at hc
    · rename_i c' x' y' e1 e2 e3
      cases hc
      have r := opd_rep hN.rel e1
      rw [hb] at r
      exact wp_cond_split (rep_bool r) (fun h => h1 h c1 e2 H0 s0 s a hN) (fun h => h2 h c2 e3 H0 s0 s a hN)
    · cases hc
  | _ => simp only [cCode] at hc; (repeat' (split at hc)) <;> first | cases hc | (simp only [Option.map_eq_some_iff] at hc; obtain ⟨_, _, hc⟩ := hc; cases hc)
/-- Where a block ends, what follows it goes on. -/
def inB (id : Nat) (K : Tm → Heap → Prop) (X : Ex → Tm → Heap → Prop) : Ex → Tm → Heap → Prop
  | .exit j, T, H => if j = id then K T H else X (.exit j) T H
  | .ret, T, H => X .ret T H
theorem IW.block {id : Nat} {x : IC} (h : IW P n x T H K (inB id K X)) : IW P n (.block id x) T H K X := by
  intro c hc H0 s0 s a hN
  cases c with
  | block id' c1 =>
    simp only [cCode, Option.map_eq_some_iff] at hc
    obtain ⟨l, hl, hc⟩ := hc
    cases hc
    refine wp_block (wp_mono (h c1 hl H0 s0 s a hN) ?_)
    intro e a' w' hq
    obtain ⟨T1, H1, s1, rfl, hN1, hk⟩ := hq
    cases e with
    | normal => exact ⟨T1, H1, s1, rfl, hN1, hk⟩
    | exit j =>
      simp only [inB] at hk
      simp only [Exit.inBlock]
      split at hk
      · rename_i e; rw [if_pos e]; exact ⟨T1, H1, s1, rfl, hN1, hk⟩
      · rename_i e; rw [if_neg e]; exact ⟨T1, H1, s1, rfl, hN1, hk⟩
    | ret => exact ⟨T1, H1, s1, rfl, hN1, hk⟩
    | _ => exact hk.elim
  | _ => simp only [cCode] at hc; (repeat' (split at hc)) <;> first | cases hc | (simp only [Option.map_eq_some_iff] at hc; obtain ⟨_, _, hc⟩ := hc; cases hc)
theorem IW.exit {id : Nat} (h : X (.exit id) T H) : IW P n (.exit id) T H K X := by
  intro c hc H0 s0 s a hN
  cases c <;> simp only [cCode] at hc <;> first
    | (cases hc; exact wp_exit ⟨T, H, s, rfl, hN, h⟩)
    | ((repeat' (split at hc)) <;> first | cases hc | (simp only [Option.map_eq_some_iff] at hc; obtain ⟨_, _, hc⟩ := hc; cases hc))
theorem IW.ret (h : X .ret T H) : IW P n .ret T H K X := by
  intro c hc H0 s0 s a hN
  cases c <;> simp only [cCode] at hc <;> first
    | (cases hc; done)
    | exact wp_ret ⟨T, H, s, rfl, hN, h⟩
    | ((repeat' (split at hc)) <;> first | cases hc | (simp only [Option.map_eq_some_iff] at hc; obtain ⟨_, _, hc⟩ := hc; cases hc))
/-- A loop: an invariant that bears a number which every round lowers. -/
theorem IW.loop {x : IC} (J : Nat → Tm → Heap → Prop) (m : Nat) (h0 : J m T H) (h : ∀ m T H, J m T H → IW P n x T H (fun T1 H1 => ∃ m1, m1 < m ∧ J m1 T1 H1) X) : IW P n (.loop x) T H K X := by
  intro c hc H0 s0 s a hN
  cases c with
  | loop c1 =>
    simp only [cCode, Option.map_eq_some_iff] at hc
    obtain ⟨l, hl, hc⟩ := hc
    cases hc
    refine wp_loop_ghost (fun m a w => ∃ T1 H1 s1, s1.w = w ∧ Now n H0 s0 T1 H1 s1 a ∧ J m T1 H1) m ⟨T, H, s, rfl, hN, h0⟩ ?_
    rintro m a w ⟨T1, H1, s1, rfl, hN1, hJ⟩
    refine wp_mono (h m T1 H1 hJ c1 hl H0 s0 s1 a hN1) ?_
    intro e a' w' hq
    obtain ⟨T2, H2, s2, rfl, hN2, hk⟩ := hq
    cases e with
    | normal =>
      obtain ⟨m1, hlt, hJ1⟩ := hk
      exact ⟨m1, hlt, T2, H2, s2, rfl, hN2, hJ1⟩
    | exit id => exact ⟨T2, H2, s2, rfl, hN2, hk⟩
    | ret => exact ⟨T2, H2, s2, rfl, hN2, hk⟩
    | _ => exact hk.elim
  | _ => simp only [cCode] at hc; (repeat' (split at hc)) <;> first | cases hc | (simp only [Option.map_eq_some_iff] at hc; obtain ⟨_, _, hc⟩ := hc; cases hc)
theorem IW.mono {x : IC} (h : IW P n x T H K X) (hk : ∀ T H, K T H → K' T H) (hx : ∀ e T H, X e T H → X' e T H) : IW P n x T H K' X' :=
  fun c hc H0 s0 s a hN => wp_mono (h c hc H0 s0 s a hN) fun e a' w' hq => hq.mono hk hx

/-! ### Functions -/
inductive RV where
  | t (i : Nat)
  | cell (i : Nat) (sz : Option Nat)
def cRV (P : Program) : ResultVar → Option RV
  | .tmp i => some (.t i)
  | .cell i t => (shapeT P t).map (.cell i)
structure IFn where
  n : Nat
  code : IC
  rs : List RV
def cFn (P : Program) (f : FuncId) : Option IFn := match P.funcs[f]? with
  | some fn => match fn.body with
    | some c => match cCode P fn.ntmps c, optAll (cRV P) fn.results.toList with
      | some ic, some rs => if fn.name == "runtime.NumGoroutine" then none else some ⟨fn.ntmps, ic, rs⟩
      | _, _ => none
    | none => none
  | none => none
def rvD (T : Tm) (H : Heap) : RV → Option D
  | .t i => some (T i)
  | .cell i sz => loadD H sz (T i)
def resD (rs : List RV) (T : Tm) (H : Heap) : Option D :=
  match rs with
  | [r] => rvD T H r
  | rs => (optAll (rvD T H) rs).map .tup
def args0 (xs : List D) : Tm := fun i => xs.getD i (.tup [])
def rvRun (tmps : Array Value) : ResultVar → Sem Value
  | .tmp t => Pure.pure (tmps.getD t undef)
  | .cell x t => do loadVar t (← asAddr (tmps.getD x undef))
theorem results_eq (fn : Func) (tmps : Array Value) : results fn tmps = (do
    let vs ← fn.results.mapM (rvRun tmps)
    Pure.pure (if h : vs.size = 1 then vs[0] else .tuple vs)) := by
  unfold results
  have : (fun r : ResultVar => match r with
      | .tmp t => (Pure.pure (tmps.getD t undef) : Sem Value)
      | .cell a t => do loadVar t (← asAddr (tmps.getD a undef))) = rvRun tmps := by
    funext r; cases r <;> rfl
  rw [← this]
  rfl
theorem rv_run (I : Inv H s) (hT : TRel s T a) {r : ResultVar} {r' : RV} (h : cRV P r = some r') {d : D} (hd : rvD T H r' = some d) :
    ∃ v, (rvRun a.tmps r).run P s.w = .ok v s.w ∧ Rep s d v := by
  cases r with
  | tmp i =>
    cases h
    simp only [rvD, Option.some.injEq] at hd
    subst hd
    exact ⟨_, rfl, hT i⟩
  | cell i t =>
    simp only [cRV, Option.map_eq_some_iff] at h
    obtain ⟨sz, hsz, rfl⟩ := h
    simp only [rvD] at hd
    obtain ⟨v, h1, h2⟩ := load_rep (P := P) I (reads_self H s) hsz (hT i) hd
    refine ⟨v, ?_, h2⟩
    have hp : ∃ ad, a.tmps.getD i undef = .pointer (some ad) := by
      have hi := hT i
      unfold loadD at hd
      split at hd
      · rename_i he; rw [he] at hi; simp only [Rep] at hi; obtain ⟨_, _, _, _, hi⟩ := hi; exact ⟨_, hi⟩
      · rename_i he; rw [he] at hi; simp only [Rep] at hi; obtain ⟨_, _, hi, _⟩ := hi; exact ⟨_, hi⟩
      · cases hd
    obtain ⟨ad, had⟩ := hp
    simp only [rvRun, had] at h1 ⊢
    simpa [asAddr, Instr.loadAt, Instr.sureAddr] using h1
theorem results_run (I : Inv H s) (hT : TRel s T a) {fn : Func} {rs : List RV} (h : optAll (cRV P) fn.results.toList = some rs) {d : D} (hd : resD rs T H = some d) :
    ∃ v, (results fn a.tmps).run P s.w = .ok v s.w ∧ Rep s d v := by
  have key : ∀ (l : List ResultVar) (rs : List RV), optAll (cRV P) l = some rs → ∀ ds, optAll (rvD T H) rs = some ds →
      ∃ vs : List Value, (l.mapM (rvRun a.tmps)).run P s.w = .ok vs s.w ∧ RepL s ds vs := by
    intro l
    induction l with
    | nil => intro rs h ds hd; simp [optAll] at h; subst h; simp [optAll] at hd; subst hd; exact ⟨[], rfl, by simp [RepL]⟩
    | cons r l ih =>
      intro rs h ds hd
      simp only [optAll] at h
      split at h
      · rename_i r' rs' hr hrs
        cases h
        simp only [optAll] at hd
        split at hd
        · rename_i d' ds' hd1 hd2
          cases hd
          obtain ⟨v, h1, h2⟩ := rv_run I hT hr hd1
          obtain ⟨vs, h3, h4⟩ := ih rs' hrs ds' hd2
          refine ⟨v :: vs, ?_, by simp only [RepL]; exact ⟨v, vs, rfl, h2, h4⟩⟩
          rw [List.mapM_cons]
          simp only [Sem.run_bind, h1, Result.andThen_ok, h3, Sem.run_pure]
        · cases hd
      · cases h
  have hlen := (optAll_spec h).1
  match rs, h, hd, hlen with
  | [r], h, hd, hlen =>
    simp only [resD] at hd
    obtain ⟨vs, h1, h2⟩ := key _ _ h [d] (by simp [optAll, hd])
    simp only [RepL] at h2
    obtain ⟨v, rest, rfl, hv, rfl⟩ := h2
    refine ⟨v, ?_, hv⟩
    rw [results_eq, Array.mapM_eq_mapM_toList]
    simp only [Sem.run_map, Sem.run_bind, h1, Result.andThen_ok, Sem.run_pure]
    simp
  | [], h, hd, hlen =>
    simp only [resD, Option.map_eq_some_iff] at hd
    obtain ⟨ds, hds, rfl⟩ := hd
    obtain ⟨vs, h1, h2⟩ := key _ _ h ds hds
    have hvl := RepL_length h2
    have hdl := (optAll_spec hds).1
    have hv0 : vs.length ≠ 1 := by simp only [List.length_nil] at hdl; omega
    refine ⟨.tuple vs.toArray, ?_, by simp only [Rep]; exact ⟨_, rfl, by simpa using h2⟩⟩
    rw [results_eq, Array.mapM_eq_mapM_toList]
    simp only [Sem.run_map, Sem.run_bind, h1, Result.andThen_ok, Sem.run_pure]
    rw [dif_neg (by simpa using hv0)]
  | r1 :: r2 :: rs, h, hd, hlen =>
    simp only [resD, Option.map_eq_some_iff] at hd
    obtain ⟨ds, hds, rfl⟩ := hd
    obtain ⟨vs, h1, h2⟩ := key _ _ h ds hds
    have hvl := RepL_length h2
    have hdl := (optAll_spec hds).1
    have hv0 : vs.length ≠ 1 := by simp at hdl; omega
    refine ⟨.tuple vs.toArray, ?_, by simp only [Rep]; exact ⟨_, rfl, by simpa using h2⟩⟩
    rw [results_eq, Array.mapM_eq_mapM_toList]
    simp only [Sem.run_map, Sem.run_bind, h1, Result.andThen_ok, Sem.run_pure]
    rw [dif_neg (by simpa using hv0)]
/-- A function's contract out of a walk over its compiled body. -/
theorem AC.body {f : FuncId} {i : IFn} {xs : List D} {Q : D → Heap → Prop} (hf : cFn P f = some i) (hn : xs.length ≤ i.n)
    (h : IW P i.n i.code (args0 xs) H (fun T H1 => ∃ r, resD i.rs T H1 = some r ∧ Q r H1) (fun e T H1 => match e with
      | .ret => ∃ r, resD i.rs T H1 = some r ∧ Q r H1
      | .exit _ => False)) : AC P f H xs Q := by
  unfold cFn at hf
  split at hf
  · rename_i fn hfn
    split at hf
    · rename_i c hc
      split at hf
      · rename_i ic rs hic hrs
        split at hf
        · cases hf
        · rename_i hnum
          cases hf
          refine ⟨by simp [bodyOk, hfn, hc]; simpa using hnum, fun s vs I hvs => ?_⟩
          have hvl : vs.size = xs.length := by simpa using RepL_length hvs
          have hn' : xs.length ≤ fn.ntmps := hn
          refine calls_of_wp hfn hc (wp_mono (h c hic H s s _ ⟨I, .refl, I, rfl, by simp; omega, fun j => ?_⟩) ?_)
          · show Rep s (xs.getD j (.tup [])) ((vs ++ Array.replicate (fn.ntmps - vs.size) undef).getD j undef)
            by_cases hj : j < xs.length
            · obtain ⟨v, hv, hr⟩ := RepL_at hvs (List.getElem?_eq_getElem hj)
              rw [List.getD_eq_getElem?_getD, List.getElem?_eq_getElem hj]
              have : (vs ++ Array.replicate (fn.ntmps - vs.size) undef).getD j undef = v := by
                rw [Array.getD_eq_getD_getElem?, Array.getElem?_append_left (by omega)]
                have hv' : vs[j]? = some v := by simpa using hv
                rw [hv']; rfl
              rw [this]; exact hr
            · rw [List.getD_eq_getElem?_getD, List.getElem?_eq_none (by omega)]
              have : (vs ++ Array.replicate (fn.ntmps - vs.size) undef).getD j undef = undef := by
                rw [Array.getD_eq_getD_getElem?, Array.getElem?_append_right (by omega), Array.getElem?_replicate]
                split <;> rfl
              rw [this]; exact rep_undef
          · rintro e a' w' ⟨T1, H1, s1, rfl, hN, hk⟩
            have fin : (∃ r, resD rs T1 H1 = some r ∧ Q r H1) → a'.defers = [] ∧ ∃ v, (results fn a'.tmps).run P s1.w = .ok v s1.w ∧ ∃ v' r H1 s2, Ending.returned v = .returned v' ∧ s2.w = s1.w ∧ Q r H1 ∧ Inv H1 s2 ∧ Ext H s H1 s2 ∧ Rep s2 r v' := by
              rintro ⟨r, hr, hq⟩
              obtain ⟨v, h1, h2⟩ := results_run hN.inv hN.rel hrs hr
              exact ⟨hN.defers, v, h1, v, r, H1, s1, rfl, rfl, hq, hN.inv, hN.ext, h2⟩
            cases e with
            | normal => exact fin hk
            | ret => exact fin hk
            | exit id => exact hk.elim
            | _ => exact hk.elim
      · cases hf
    · cases hf
  · cases hf
theorem AC.mono {f : FuncId} {xs : List D} {Q Q' : D → Heap → Prop} (h : AC P f H xs Q) (hq : ∀ r H1, Q r H1 → Q' r H1) : AC P f H xs Q' :=
  ⟨h.1, fun s vs I hv => (h.2 s vs I hv).mono fun _ _ ⟨v, r, H1, s1, h1, h2, h3, h4⟩ => ⟨v, r, H1, s1, h1, h2, hq _ _ h3, h4⟩⟩
end
end Go.Proofs.Ytlagfebklcaaeaa

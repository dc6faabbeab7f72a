/- A value-level machine over the model, part 14: code, calls, and the rules of the value level. -/
import Derived.Test.YtlagfebklcaaeaaA13
import Derived.Deep.LoopGhost
namespace Go.Proofs.Ytlagfebklcaaeaa
set_option linter.all false

inductive Ex where
  | exit (id : Nat)
  | ret
structure IQ where
  dst : Option Nat
  guard : Option (Nat × Bool)
  op : IOp
  deriving Inhabited
inductive IC where
  | skip
  | region (ops : List IQ)
  | dregion (bs : List (List Nat)) (ops : List IQ)
  | seq (a b : IC)
  | cond (c : Opd) (a b : IC)
  | block (id : Nat) (b : IC)
  | loop (b : IC)
  | exit (id : Nat)
  | ret
  deriving Inhabited
def dstOk (n : Nat) : Option Nat → Bool
  | none => true
  | some d => decide (d < n)
/-- What the machine does not know is dead: a proof never comes to it. -/
def cIO (P : Program) (n : Nat) (ops : Array Oper) (o : Oper) : Option IQ :=
  match (match o.guard with
    | none => some none
    | some (j, b) => ((ops[j]?).bind (·.dst)).map fun t => some (t, b)) with
  | some g => if dstOk n o.dst = true then some ⟨o.dst, g, (cOp P o).getD .dead⟩ else none
  | none => none
def opOk (P : Program) (o : Oper) (op : IOp) : Prop := cOp P o = some op ∨ op = .dead
/-- The operations that come before each, through the edges. -/
def befs (ops : List Oper) : List (List Nat) := ops.foldl (fun acc o =>
  acc ++ [((o.after.toList.filter (Region.binds .any ·)).flatMap fun e => e.on :: acc.getD e.on []).eraseDups]) []
/-- Edges lead back in the text. -/
def backOk (ops : List Oper) : Bool := (List.range ops.length).all fun i => match ops[i]? with
  | some o => o.after.toList.all fun e => !Region.binds .any e || decide (e.on < i)
  | none => true
def cCode (P : Program) (n : Nat) : Code → Option IC
  | .skip => some .skip
  | .region _ ops draw => match optAll (cIO P n ops) ops.toList with
    | some l => if draw then (if backOk ops.toList && P.follows .mixedOrders then some (.dregion (befs ops.toList) l) else none) else some (.region l)
    | none => none
  | .seq a b => match cCode P n a, cCode P n b with
    | some a, some b => some (.seq a b)
    | _, _ => none
  | .cond c a b => match cOpd c, cCode P n a, cCode P n b with
    | some c, some a, some b => some (.cond c a b)
    | _, _, _ => none
  | .block id b => (cCode P n b).map (.block id)
  | .loop b => (cCode P n b).map .loop
  | .exit id => some (.exit id)
  | .ret => some .ret
  | _ => none

/-- What is known where the code stands: the call began in (H0, s0). -/
structure Now (n : Nat) (H0 : Heap) (s0 : St) (T : Tm) (H : Heap) (s : St) (a : Act) : Prop where
  inv0 : Inv H0 s0
  ext : Ext H0 s0 H s
  inv : Inv H s
  defers : a.defers = []
  size : a.tmps.size = n
  rel : TRel s T a
def Pst (n : Nat) (H0 : Heap) (s0 : St) (K : Tm → Heap → Prop) (X : Ex → Tm → Heap → Prop) : Exit → Act → World → Prop := fun e a w =>
  ∃ T H s, s.w = w ∧ Now n H0 s0 T H s a ∧ match e with
    | .normal => K T H
    | .exit id => X (.exit id) T H
    | .ret => X .ret T H
    | _ => False
def W (P : Program) (n : Nat) (c : Code) (T : Tm) (H : Heap) (K : Tm → Heap → Prop) (X : Ex → Tm → Heap → Prop) : Prop :=
  ∀ H0 s0 s a, Now n H0 s0 T H s a → c.wp P (Pst n H0 s0 K X) a s.w
/-- The rules speak of the compiled code. -/
def IW (P : Program) (n : Nat) (i : IC) (T : Tm) (H : Heap) (K : Tm → Heap → Prop) (X : Ex → Tm → Heap → Prop) : Prop :=
  ∀ c, cCode P n c = some i → W P n c T H K X

/-! ### Calls -/
def bodyOk (P : Program) (f : FuncId) : Bool := match P.funcs[f]? with
  | some fn => fn.body.isSome && !(fn.name == "runtime.NumGoroutine")
  | none => false
/-- Called in a heap H with the arguments xs, the function returns; Q says what. -/
def AC (P : Program) (f : FuncId) (H : Heap) (xs : List D) (Q : D → Heap → Prop) : Prop :=
  bodyOk P f = true ∧ ∀ s vs, Inv H s → RepL s xs vs.toList → Calls P f vs s.w fun e w => ∃ v r H1 s1, e = .returned v ∧ s1.w = w ∧ Q r H1 ∧ Inv H1 s1 ∧ Ext H s H1 s1 ∧ Rep s1 r v
def isPtrD : TypeDesc → Bool
  | .pointer _ => true
  | _ => false
/-- The function that a method of a type is. -/
def methT (P : Program) (t : TypeId) (m : String) : Option FuncId := match P.info? t with
  | some i => match i.methods.find? (·.name == m) with
    | some mm => match mm.func, P.underlying t with
      | some (f, pr), some u => if mm.path.isEmpty && pr == isPtrD u then some f else none
      | _, _ => none
    | none => none
  | none => none
/-- Which function an operation calls, with which arguments. -/
def callD (P : Program) (op : IOp) (T : Tm) : Option (FuncId × List D) :=
  match op with
  | .call f xs => some (f, xs.map (·.ev T))
  | .callv g xs => match g.ev T with
    | .fn (.func f) first cap => some (f, first ++ xs.map (·.ev T) ++ cap)
    | _ => none
  | .inv x m xs => match x.ev T with
    | .iface t v => (methT P t m).map fun f => (f, v :: xs.map (·.ev T))
    | _ => none
  | _ => none
/-- One operation. -/
inductive Stp (P : Program) (op : IOp) (T : Tm) (H : Heap) (K : D → Heap → Prop) : Prop where
  | q {d : D} {nb : Option Blk} (h : qstep op T H H.length = some (d, nb)) (k : K d (pushB H nb))
  | e {d : D} {H1 : Heap} (h : estep op T H = some (d, H1)) (k : K d H1)
  | c {f : FuncId} {xs : List D} {Q : D → Heap → Prop} (h : callD P op T = some (f, xs)) (hc : AC P f H xs Q) (k : ∀ r H1, Q r H1 → K r H1)
  | n {neq : Bool} {x : Opd} {m : Nat} (h : op = .isnil neq x) (hl : lenD (x.ev T) = some m) (k : ∀ b, (0 < m → b = false) → K (.bool (if neq then !b else b)) H)
def put (T : Tm) (dst : Option Nat) (d : D) : Tm := match dst with
  | none => T
  | some i => fun j => if j = i then d else T j
def ROps (P : Program) : List IQ → Tm → Heap → (Tm → Heap → Prop) → Prop
  | [], T, H, K => K T H
  | o :: l, T, H, K => match o.guard with
    | none => Stp P o.op T H fun d H1 => ROps P l (put T o.dst d) H1 K
    | some (t, b) => (∃ v, T t = .bool v ∧ ((v = b → Stp P o.op T H fun d H1 => ROps P l (put T o.dst d) H1 K) ∧ (v ≠ b → ROps P l (put T o.dst (.tup [])) H K))) ∨ (T t = .tup [] ∧ ROps P l (put T o.dst (.tup [])) H K)

section
variable {P : Program} {n : Nat} {H0 H : Heap} {s0 s : St} {T : Tm} {a : Act} {K K' : Tm → Heap → Prop} {X X' : Ex → Tm → Heap → Prop}
theorem Pst.mono {e : Exit} {w : World} (hk : ∀ T H, K T H → K' T H) (hx : ∀ e T H, X e T H → X' e T H) (h : Pst n H0 s0 K X e a w) : Pst n H0 s0 K' X' e a w := by
  obtain ⟨T, H, s, h1, h2, h3⟩ := h
  refine ⟨T, H, s, h1, h2, ?_⟩
  cases e <;> first | exact hk _ _ h3 | exact hx _ _ _ h3 | exact h3
theorem TRel.put {d : D} {v : Value} (h : TRel s T a) (hd : Rep s d v) {dst : Option Nat} (hn : ∀ i, dst = some i → i < a.tmps.size) : TRel s (put T dst d) (a.put dst v) := by
  cases dst with
  | none => exact h
  | some i =>
    intro j
    have hi := hn i rfl
    simp only [Go.Proofs.Ytlagfebklcaaeaa.put, Act.put]
    by_cases e : j = i
    · subst e
      rw [if_pos rfl]
      have : (a.tmps.setIfInBounds j v).getD j undef = v := by simp [Array.getD_eq_getD_getElem?, Array.getElem?_setIfInBounds, hi]
      rw [this]; exact hd
    · rw [if_neg e]
      have : (a.tmps.setIfInBounds i v).getD j undef = a.tmps.getD j undef := by
        rw [Array.getD_eq_getD_getElem?, Array.getD_eq_getD_getElem?, Array.getElem?_setIfInBounds_ne (fun h => e h.symm)]
      rw [this]; exact h j
theorem put_size {a : Act} {dst : Option Nat} {v : Value} : (a.put dst v).tmps.size = a.tmps.size := by cases dst <;> simp [Act.put]
theorem put_defers {a : Act} {dst : Option Nat} {v : Value} : (a.put dst v).defers = a.defers := by cases dst <;> rfl
theorem rep_undef : Rep s (.tup []) undef := by simp only [Rep]; exact ⟨#[], rfl, by simp [RepL]⟩
theorem Now.step {d : D} {v : Value} {H1 : Heap} {s1 : St} (h : Now n H0 s0 T H s a) (I : Inv H1 s1) (E : Ext H s H1 s1) (hd : Rep s1 d v) {dst : Option Nat} (hn : ∀ i, dst = some i → i < n) : Now n H0 s0 (put T dst d) H1 s1 (a.put dst v) :=
  ⟨h.inv0, h.ext.trans h.inv0 E, I, put_defers.trans h.defers, put_size.trans h.size, TRel.put (h.rel.mono (E.mono h.inv)) hd (by rw [h.size]; exact hn)⟩
theorem callFunc_ok {f : FuncId} (h : bodyOk P f = true) (vs : Array Value) (w : World) : (callFunc f vs).run P w = .ok (.enter f vs) w := by
  unfold bodyOk at h
  split at h
  · rename_i fn hf
    simp only [Bool.and_eq_true, Bool.not_eq_true'] at h
    obtain ⟨h1, h2⟩ := h
    have h3 : fn.body ≠ none := fun e => by rw [e] at h1; cases h1
    have h4 : ¬ (fn.name = "runtime.NumGoroutine") := by simpa using h2
    simp [callFunc, hf, h3, h4]
  · cases h
theorem meth_run {t : TypeId} {m : String} {f : FuncId} {v : Value} (h : methT P t m = some f) (k : Nat) (w : World) : (method (k + 1) t v m).run P w = .ok (f, v) w := by
  unfold methT at h
  split at h
  · rename_i i hi
    split at h
    · rename_i mm hm
      split at h
      · rename_i f' pr u hf hu
        split at h
        · rename_i hc
          cases h
          simp only [Bool.and_eq_true] at hc
          obtain ⟨hp, hpr⟩ := hc
          have hpe : mm.path.toList = [] := by simpa using hp
          simp only [method, typeInfo, hi, Sem.run_bind, run_program, Result.andThen_ok, Sem.run_pure, hm, hpe, follow, hf, receiverAt, run_underlying hu]
          cases u <;> cases pr <;> first | (cases hpr; done) | simp [Place.get]
        · cases h
      · cases h
    · cases h
  · cases h
theorem call_sound {o : Oper} {op : IOp} (hc : cOp P o = some op) (hT : TRel s T a) {f : FuncId} {xs : List D} (h : callD P op T = some (f, xs)) (hb : bodyOk P f = true) :
    ∃ vs, (execOp a.eval o).run P s.w = .ok (.enter f vs) s.w ∧ RepL s xs vs.toList := by
  obtain ⟨dst, oop, ty, pos, after, guard⟩ := o
  have none_call : ∀ op, (∀ f xs, op ≠ .call f xs) → (∀ g xs, op ≠ .callv g xs) → (∀ x m xs, op ≠ .inv x m xs) → callD P op T = none := by
    intro op h1 h2 h3
    cases op <;> first | rfl | exact absurd rfl (h1 _ _) | exact absurd rfl (h2 _ _) | exact absurd rfl (h3 _ _ _)
  cases oop with
  | call c =>
    simp only [cOp] at hc
    split at hc
    · rename_i ys hys
      have rs := opds_rep hT hys
      have hargs : c.args.map a.eval = (c.args.toList.map a.eval).toArray := by apply Array.ext'; simp
      split at hc
      case h_8 g hcal =>
        cases hc
        simp only [callD, Option.some.injEq, Prod.mk.injEq] at h
        obtain ⟨rfl, rfl⟩ := h
        refine ⟨c.args.map a.eval, ?_, by simpa using rs⟩
        simp [execOp, resolve, hcal, Act.eval, Deferred.ofValue, invoke, callFunc_ok hb]
      case h_9 g hnf hcal =>
        simp only [Option.map_eq_some_iff] at hc
        obtain ⟨g', hg, rfl⟩ := hc
        have rg := opd_rep hT hg
        simp only [callD] at h
        split at h
        · rename_i f' first cap he
          cases h
          rw [he] at rg
          simp only [Rep] at rg
          obtain ⟨fs, cs, hv, r1, r2⟩ := rg
          refine ⟨fs ++ c.args.map a.eval ++ cs, ?_, ?_⟩
          · simp only [execOp, resolve, hcal]
            have hv' : (fun x => a.eval x) g = .func (.func f) fs cs := hv
            simp [hv, Deferred.ofValue, invoke, callFunc_ok hb]
          · simpa using RepL_append (RepL_append r1 rs) r2
        · cases h
      case h_10 r m hcal =>
        simp only [Option.map_eq_some_iff] at hc
        obtain ⟨g', hg, rfl⟩ := hc
        have rg := opd_rep hT hg
        simp only [callD] at h
        split at h
        · rename_i t v he
          simp only [Option.map_eq_some_iff, Prod.mk.injEq] at h
          obtain ⟨f', hm, rfl, rfl⟩ := h
          rw [he] at rg
          simp only [Rep] at rg
          obtain ⟨u, hv, r1⟩ := rg
          refine ⟨#[u] ++ c.args.map a.eval, ?_, ?_⟩
          · have hmr : ∀ w, (method (P.types.size + Made.depth) t u m).run P w = .ok (f', u) w := fun w => by
              have : P.types.size + Made.depth = (P.types.size + Made.depth - 1) + 1 := by
                have : 0 < Made.depth := by decide
                omega
              rw [this]
              exact meth_run hm _ w
            have e2 : (c.args.map a.eval).extract 0 c.args.size = c.args.map a.eval := by
              apply Array.ext'
              simp only [Array.toList_extract, Array.toList_map, List.extract_eq_take_drop, List.drop_zero, Nat.sub_zero]
              exact List.take_of_length_le (by simp)
            have e1 : (#[Value.iface t u] ++ c.args.map a.eval)[0]? = some (.iface t u) := by simp [Array.getElem?_append]
            simp [execOp, resolve, hcal, hv, invoke, callMethod, hmr, callFunc_ok hb, e1, e2]
          · simp only [RepL, List.map_cons]
            exact ⟨u, (c.args.toList.map a.eval), by simp, r1, rs⟩
        · cases h
      all_goals (repeat' (split at hc)) <;> first
        | (cases hc; rw [none_call _ (by simp) (by simp) (by simp)] at h; cases h; done)
        | (cases hc; done)
        | (simp only [Option.map_eq_some_iff] at hc; obtain ⟨_, _, rfl⟩ := hc; rw [none_call _ (by simp) (by simp) (by simp)] at h; cases h; done)
    · cases hc
  | slice t x lo hi mx =>
    cases mx with
    | some m => simp only [cOp] at hc; cases hc
    | none =>
      simp only [cOp] at hc
      (repeat' (split at hc)) <;> first
        | (cases hc; rw [none_call _ (by simp) (by simp) (by simp)] at h; cases h; done)
        | (cases hc; done)
        | (simp only [Option.map_eq_some_iff] at hc; obtain ⟨_, _, rfl⟩ := hc; rw [none_call _ (by simp) (by simp) (by simp)] at h; cases h; done)
  | _ =>
    simp only [cOp] at hc
    (repeat' (split at hc)) <;> first
      | (cases hc; rw [none_call _ (by simp) (by simp) (by simp)] at h; cases h; done)
      | (cases hc; done)
      | (simp only [Option.map_eq_some_iff] at hc; obtain ⟨_, _, rfl⟩ := hc; rw [none_call _ (by simp) (by simp) (by simp)] at h; cases h; done)
theorem isnil_sound {o : Oper} {neq : Bool} {x : Opd} (hc : cOp P o = some (.isnil neq x)) (hT : TRel s T a) {m : Nat} (hl : lenD (x.ev T) = some m) :
    ∃ b, (0 < m → b = false) ∧ (execOp a.eval o).run P s.w = .ok (.value (.bool (if neq then !b else b))) s.w := by
  obtain ⟨dst, oop, ty, pos, after, guard⟩ := o
  cases oop with
  | binOp op t x' y yt =>
    simp only [cOp] at hc
    split at hc
    · rename_i x1 y1 h1 h2
      have key : x1 = x → nilSl P t y = true → (op = .eql ∧ neq = false ∨ op = .neq ∧ neq = true) → ∃ b, (0 < m → b = false) ∧ (execOp a.eval ⟨dst, .binOp op t x' y yt, ty, pos, after, guard⟩).run P s.w = .ok (.value (.bool (if neq then !b else b))) s.w := by
        intro e hn ho
        subst e
        have r := opd_rep hT h1
        simp only [nilSl, Bool.and_eq_true] at hn
        obtain ⟨hs, hy⟩ := hn
        obtain ⟨el, hel⟩ := Option.isSome_iff_exists.1 hs
        split at hy
        · rename_i c1 c2
          have hv : ∃ ad k cap, a.eval x' = .slice ad k cap ∧ (0 < m → ad ≠ none) := by
            unfold lenD at hl
            split at hl
            · rename_i z f es he
              cases hl
              rw [he] at r
              simp only [Rep] at r
              obtain ⟨ad, cap, hv, _, _, h3⟩ := r
              refine ⟨ad, _, cap, hv, fun h0 => ?_⟩
              rcases h3 with rfl | ⟨g, o, rfl, _⟩
              · simp at h0
              · simp
            · rename_i b o n f he
              cases hl
              rw [he] at r
              simp only [Rep] at r
              obtain ⟨l, cap, _, _, _, h3⟩ := r
              rcases h3 with ⟨rfl, _, ad, hv⟩ | ⟨g, _, _, _, hv, _⟩
              · exact ⟨ad, 0, 0, hv, fun h0 => absurd h0 (Nat.lt_irrefl 0)⟩
              · exact ⟨_, _, _, hv, fun _ => by simp⟩
            · cases hl
          obtain ⟨ad, k, cap, hv, h0⟩ := hv
          refine ⟨ad.isNone, fun h => ?_, ?_⟩
          · cases ad with
            | none => exact absurd rfl (h0 h)
            | some _ => rfl
          · have hd : ∃ d, Op.maxDepth = d + 1 := ⟨9999, rfl⟩
            obtain ⟨d, hd⟩ := hd
            have hg : ∀ op, (eqGuard op t x' (.const (.slice none c1 c2)) (.slice ad k cap) (.slice none c1 c2)).run P s.w = .ok () s.w := fun op => by
              unfold eqGuard
              cases op <;> simp
            have hy : a.eval (.const (.slice none c1 c2)) = .slice none c1 c2 := rfl
            rcases ho with ⟨rfl, rfl⟩ | ⟨rfl, rfl⟩ <;>
              cases ad <;> simp [execOp, hv, hy, hg, binOp, Op.equal, hd, Op.equalIn, run_underlying (sliceT_spec hel)]
        · cases hy
      split at hc
      · cases hc
      · split at hc
        · split at hc <;> cases hc
        · split at hc
          · split at hc <;> cases hc
          · split at hc
            · rename_i hn
              split at hc <;> cases hc
              · exact key rfl hn (.inl ⟨rfl, rfl⟩)
              · exact key rfl hn (.inr ⟨rfl, rfl⟩)
            · cases hc
    · cases hc
  | slice t x lo hi mx =>
    cases mx with
    | some m => simp only [cOp] at hc; cases hc
    | none =>
      simp only [cOp] at hc
      (repeat' (split at hc)) <;> first
        | (cases hc; done)
        | (simp only [Option.map_eq_some_iff] at hc; obtain ⟨_, _, hc⟩ := hc; cases hc; done)
  | _ =>
    simp only [cOp] at hc
    (repeat' (split at hc)) <;> first
      | (cases hc; done)
      | (simp only [Option.map_eq_some_iff] at hc; obtain ⟨_, _, hc⟩ := hc; cases hc; done)
end
end Go.Proofs.Ytlagfebklcaaeaa

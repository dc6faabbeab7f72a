/- A value-level machine over the model, part 28: stepping through code on its own; loops that leave slots as they were. -/
import Derived.Test.YtlagfebklcaaeaaA27
namespace Go.Proofs.Ytlagfebklcaaeaa
set_option linter.all false
/-- An operation of any kind. -/
def sall (op : IOp) (T : Tm) (H : Heap) : Option (D × Heap) := match qstep op T H H.length with
  | some (d, nb) => some (d, pushB H nb)
  | none => estep op T H
/-- What a guard says. -/
def gD (T : Tm) (t : Nat) (b : Bool) : Option Bool := match T t with
  | .bool v => some (v == b)
  | .tup [] => some false
  | _ => none
def wsIn (ws : List (Nat × Nat)) (j : Nat) : Bool := match ws with
  | [] => false
  | (a, b) :: l => (a - j == 0) && (j + 1 - b == 0) || wsIn l j
/-- The slots ws are T1's, the others T0's. -/
def fr (ws : List (Nat × Nat)) (T0 T1 : Tm) : Tm := fun j => if wsIn ws j = true then T1 j else T0 j
section
variable {P : Program} {n : Nat} {H : Heap} {T T0 T1 : Tm} {K : Tm → Heap → Prop} {X : Ex → Tm → Heap → Prop} {l : List IQ} {dst : Option Nat} {op : IOp} {d : D} {x y : IC}
theorem ROps.s {H1 : Heap} (h : sall op T H = some (d, H1)) (k : ROps P l (put T dst d) H1 K) : ROps P (⟨dst, none, op⟩ :: l) T H K := by
  unfold sall at h
  split at h
  · rename_i d' nb hq
    cases h
    exact ROps.q hq k
  · exact ROps.e h k
theorem ROps.g {t : Nat} {b w : Bool} (h : gD T t b = some w) (k1 : w = true → ROps P (⟨dst, none, op⟩ :: l) T H K) (k2 : w = false → ROps P l (put T dst (.tup [])) H K) : ROps P (⟨dst, some (t, b), op⟩ :: l) T H K := by
  unfold gD at h
  split at h
  · rename_i v hv
    cases h
    by_cases e : v = b
    · subst e; exact .gt hv (k1 (by simp))
    · exact .gf hv e (k2 (by simpa using e))
  · rename_i hv
    cases h
    exact .gn hv (k2 rfl)
  · cases h
theorem QRun.g {t : Nat} {b w v : Bool} (h : T t = .bool v) (hw : (v == b) = w) (k1 : w = true → QRun P (⟨dst, none, op⟩ :: l) T H K) (k2 : w = false → QRun P l (put T dst (.tup [])) H K) : QRun P (⟨dst, some (t, b), op⟩ :: l) T H K := by
  subst hw
  by_cases e : v = b
  · subst e; exact .gt h (k1 (by simp))
  · exact .gf h e (k2 (by simpa using e))
theorem IW.condB {c : Opd} {b : Bool} (hb : c.ev T = .bool b) (h1 : b = true → IW P n x T H K X) (h2 : b = false → IW P n y T H K X) : IW P n (.cond c x y) T H K X := IW.cond hb h1 h2
theorem IW.blockS {id : Nat} (h : IW P n (.seq x y) T H K (inB id K X)) : IW P n (.block id (.seq x y)) T H K X := IW.block h
theorem IW.blockC {id : Nat} {c : Opd} (h : IW P n (.cond c x y) T H K (inB id K X)) : IW P n (.block id (.cond c x y)) T H K X := IW.block h
theorem IW.blockB {id j : Nat} (h : IW P n (.block j x) T H K (inB id K X)) : IW P n (.block id (.block j x)) T H K X := IW.block h
theorem IW.blockR {id : Nat} {ops : List IQ} (h : IW P n (.region ops) T H K (inB id K X)) : IW P n (.block id (.region ops)) T H K X := IW.block h
theorem ROps.fo {f : FuncId} {xs : List D} {e : TypeId} {sz : Nat} {es : List (List D)} (h : callD P op T = some (f, xs)) (hc : FnOwn P f xs e sz es) (k : ROps P l (put T dst (.osl H.length 0 es.length false)) (H ++ [some ⟨e, sz, es, 0⟩]) K) : ROps P (⟨dst, none, op⟩ :: l) T H K :=
  ROps.c h (hc.ac H) fun _ _ e => by obtain ⟨rfl, rfl⟩ := e; exact k
theorem ROps.fl {f : FuncId} {xs xs' : List D} {r : D} (h : callD P op T = some (f, xs)) (hl : LendL H xs xs') (hc : Fn P f xs' r) (hr : flatD r = true) (k : ROps P l (put T dst r) H K) : ROps P (⟨dst, none, op⟩ :: l) T H K :=
  ROps.c h (hc.lend hl hr) fun _ _ e => by obtain ⟨rfl, rfl⟩ := e; exact k
theorem bq_t (b : Bool) : (b == true) = b := by cases b <;> rfl
theorem bq_f (b : Bool) : (b == false) = !b := by cases b <;> rfl
theorem ne_i (a b : Int) : (a != b) = decide (¬ a = b) := by
  show (!(decide (a = b))) = _
  rw [decide_not]
theorem not_dec (p : Prop) [Decidable p] : (!(decide p)) = decide (¬ p) := by rw [decide_not]
theorem and_dec (p q : Prop) [Decidable p] [Decidable q] : (decide p && decide q) = decide (p ∧ q) := (Bool.decide_and p q).symm
theorem or_dec (p q : Prop) [Decidable p] [Decidable q] : (decide p || decide q) = decide (p ∨ q) := (Bool.decide_or p q).symm
theorem nat_lt {a b : Nat} : ((a : Int) < (b : Int)) = (a < b) := propext Int.ofNat_lt
theorem nat_le {a b : Nat} : ((a : Int) ≤ (b : Int)) = (a ≤ b) := propext Int.ofNat_le
theorem len_lt_app (H : Heap) (o : Option Blk) : (H.length < (H ++ [o]).length) = True := by simp
theorem lt_app {b : Nat} {o : Option Blk} (h : b < H.length) : (b < (H ++ [o]).length) = True := by simp; omega
theorem blkOf_app_new' {b : Nat} {o : Option Blk} {x : Blk} : blkOf (H.set b o ++ [some x]) H.length = some x := blkOf_app_new
theorem lt_set {b c : Nat} {o : Option Blk} (h : b < H.length) : (b < (H.set c o).length) = True := by simp [h]
theorem nat_eq {a b : Nat} : ((a : Int) = (b : Int)) = (a = b) := propext (by omega)
theorem fr_at (ws : List (Nat × Nat)) (j : Nat) : fr ws T0 T1 j = if wsIn ws j = true then T1 j else T0 j := rfl
theorem fr_self (ws : List (Nat × Nat)) : fr ws T T = T := by funext j; simp [fr]
theorem put_fr {ws : List (Nat × Nat)} {i : Nat} (h : wsIn ws i = true) : put (fr ws T0 T1) (some i) d = fr ws T0 (put T1 (some i) d) := by
  funext j
  simp only [put_at, fr]
  by_cases e : j = i
  · subst e; simp [h]
  · simp [e]
/-- Slots of a part. -/
def wsSub (v w : List (Nat × Nat)) : Bool := v.all fun p => w.any fun q => decide (q.1 ≤ p.1) && decide (p.2 ≤ q.2)
theorem wsSub_in {v w : List (Nat × Nat)} (h : wsSub v w = true) {j : Nat} (hj : wsIn v j = true) : wsIn w j = true := by
  have key : ∀ (l : List (Nat × Nat)), wsIn l j = true ↔ ∃ p ∈ l, p.1 ≤ j ∧ j < p.2 := by
    intro l
    induction l with
    | nil => simp [wsIn]
    | cons p l ih =>
      simp only [wsIn, Bool.or_eq_true, Bool.and_eq_true, beq_iff_eq, ih, List.mem_cons, exists_eq_or_imp]
      constructor
      · rintro (h | h)
        · exact .inl (by omega)
        · exact .inr h
      · rintro (h | h)
        · exact .inl (by omega)
        · exact .inr h
  rw [key] at hj ⊢
  obtain ⟨p, hp, h1, h2⟩ := hj
  have := (List.all_eq_true.1 h) p hp
  obtain ⟨q, hq, h3⟩ := List.any_eq_true.1 this
  simp at h3
  exact ⟨q, hq, by omega, by omega⟩
theorem fr_fr {v w : List (Nat × Nat)} {T2 : Tm} (h : wsSub v w = true) : fr v (fr w T0 T1) T2 = fr w T0 (fr v T1 T2) := by
  funext j
  simp only [fr]
  by_cases hv : wsIn v j = true
  · rw [if_pos hv, if_pos (wsSub_in h hv), if_pos hv]
  · rw [if_neg hv, if_neg hv]
theorem wsIn_nil (j : Nat) : wsIn [] j = false := rfl
theorem wsIn_cons (a b : Nat) (l : List (Nat × Nat)) (j : Nat) : wsIn ((a, b) :: l) j = ((a - j == 0) && (j + 1 - b == 0) || wsIn l j) := rfl
/-- Behind a round of a range that leaves the slots outside ws as they were. -/
def NxF (ws : List (Nat × Nat)) (T0 : Tm) (ti t1 : Nat) (J : Nat → Tm → Heap → Prop) (i : Nat) (T : Tm) (H : Heap) : Prop :=
  ∃ T2, T = fr ws T0 T2 ∧ T2 ti = I i ∧ J (i + 1) (put (put T2 (some t1) (I (i + 1 : Nat))) (some ti) (I (i + 1 : Nat))) H
theorem NxF.mk {ws : List (Nat × Nat)} {ti t1 : Nat} {J : Nat → Tm → Heap → Prop} {i : Nat} {T2 : Tm} (h : T = fr ws T0 T2) (h1 : T2 ti = I i) (h2 : J (i + 1) (put (put T2 (some t1) (I (i + 1 : Nat))) (some ti) (I (i + 1 : Nat))) H) : NxF ws T0 ti t1 J i T H := ⟨T2, h, h1, h2⟩
theorem IW.rangeF {id k ti tn tc t1 : Nat} {body : IC} (ws : List (Nat × Nat)) (N : Nat) (J : Nat → Tm → Heap → Prop) (hN : N ≤ 9223372036854775807) (hw : (wsIn ws ti && wsIn ws tc && wsIn ws t1 && !wsIn ws tn && !(t1 == ti)) = true) (hi : T ti = I 0) (hn : T tn = I N) (h0 : J 0 T H)
    (hb : ∀ i T1 H1, i < N → T1 ti = I i → J i T1 H1 → IW P n body (fr ws T (put T1 (some tc) (.bool true))) H1 (NxF ws T ti t1 J i) (inB k (NxF ws T ti t1 J i) (inB id K X)))
    (hk : ∀ T1 H1, T1 ti = I N → J N T1 H1 → K (fr ws T (put T1 (some tc) (.bool false))) H1) :
    IW P n (.block id (.loop (.seq (.region [⟨some tc, none, .bin .lss (.t ti) (.t tn)⟩]) (.seq (.cond (.t tc) .skip (.exit id)) (.seq (.block k body)
      (.region [⟨some t1, none, .bin .add (.t ti) (.c (.int .i64 1))⟩, ⟨some ti, none, .mv (.t t1)⟩])))))) T H K X := by
  simp only [Bool.and_eq_true, Bool.not_eq_true', beq_eq_false_iff_ne, ne_eq] at hw
  obtain ⟨⟨⟨⟨w1, w2⟩, w3⟩, w4⟩, w5⟩ := hw
  refine IW.range N (fun i T' H' => ∃ T1, T' = fr ws T T1 ∧ T1 ti = I i ∧ J i T1 H') hN ⟨T, (fr_self ws).symm, hi, h0⟩ ?_ ?_ ?_
  · rintro i T' H' ⟨T1, rfl, h1, _⟩
    refine ⟨by simp [fr_at, w1, h1], ?_⟩
    rw [fr_at, w4]; simpa using hn
  · rintro i T' H' hlt ⟨T1, rfl, h1, h2⟩
    rw [put_fr w2]
    have key : ∀ T2 H2, NxF ws T ti t1 J i T2 H2 → Nx ti t1 (fun i T' H' => ∃ T1, T' = fr ws T T1 ∧ T1 ti = I i ∧ J i T1 H') i T2 H2 := by
      rintro T2 H2 ⟨T3, rfl, q1, q2⟩
      refine ⟨by simp [fr_at, w1, q1], _, ?_, ?_, q2⟩
      · rw [put_fr w3, put_fr w1]
      · simp [put_at]
    refine (hb i T1 H' hlt h1 h2).mono key fun e T2 H2 hx => ?_
    cases e with
    | ret => exact hx
    | exit j =>
      simp only [inB] at hx ⊢
      by_cases hj : j = k
      · rw [if_pos hj] at hx ⊢; exact key _ _ hx
      · rw [if_neg hj] at hx ⊢; exact hx
  · rintro T' H' ⟨T1, rfl, h1, h2⟩
    rw [put_fr w2]
    exact hk T1 H' h1 h2
/-- Behind a round of any loop. -/
def LpF (ws : List (Nat × Nat)) (T0 : Tm) (J : Nat → Tm → Heap → Prop) (m : Nat) (T : Tm) (H : Heap) : Prop := ∃ T2, T = fr ws T0 T2 ∧ ∃ m1, m1 < m ∧ J m1 T2 H
theorem LpF.mk {ws : List (Nat × Nat)} {J : Nat → Tm → Heap → Prop} {m : Nat} {T2 : Tm} (h : T = fr ws T0 T2) (h2 : ∃ m1, m1 < m ∧ J m1 T2 H) : LpF ws T0 J m T H := ⟨T2, h, h2⟩
theorem IW.loopF {body : IC} (ws : List (Nat × Nat)) (J : Nat → Tm → Heap → Prop) (m : Nat) (h0 : J m T H) (h : ∀ m T1 H1, J m T1 H1 → IW P n body (fr ws T T1) H1 (LpF ws T J m) X) : IW P n (.loop body) T H K X :=
  IW.loop (fun m T' H' => ∃ T1, T' = fr ws T T1 ∧ J m T1 H') m ⟨T, (fr_self ws).symm, h0⟩ fun m T' H' ⟨T1, e, hj⟩ => by
    subst e
    exact (h m T1 H' hj).mono (fun T2 H2 ⟨T3, e, m1, h1, h2⟩ => ⟨m1, h1, T3, e, h2⟩) fun _ _ _ h => h
/-- Of the slots no more is kept than what some of them hold. -/
theorem IW.vals (is : List Nat) {vs : List D} (h0 : is.map T = vs) (h : ∀ T1 : Tm, is.map T1 = vs → IW P n x T1 H K X) : IW P n x T H K X := h T h0
/-- Behind a piece of code that leaves the slots outside ws as they were. -/
def CtF (ws : List (Nat × Nat)) (T0 : Tm) (K1 : Tm → Heap → Prop) (T : Tm) (H : Heap) : Prop := ∃ T2, T = fr ws T0 T2 ∧ K1 T2 H
theorem CtF.mk {ws : List (Nat × Nat)} {K1 : Tm → Heap → Prop} {T2 : Tm} (h : T = fr ws T0 T2) (h2 : K1 T2 H) : CtF ws T0 K1 T H := ⟨T2, h, h2⟩
theorem IW.cutF (ws : List (Nat × Nat)) (K1 : Tm → Heap → Prop) (h1 : IW P n x (fr ws T T) H (CtF ws T K1) X) (h2 : ∀ T1 H1, K1 T1 H1 → IW P n y (fr ws T T1) H1 K X) : IW P n (.seq x y) T H K X := by
  rw [fr_self] at h1
  exact IW.seq (h1.mono (fun T' H' ⟨T2, e, hk⟩ => by subst e; exact h2 T2 H' hk) fun _ _ _ h => h)
end
attribute [go_sem] blkOf_old len_lt_app lt_app lt_set blkOf_app_new' I blkOf_new modH_some modH_none set_new args0 put_none pushB_none pushB_some binD binInt unD lenD loadD fadrD takeD szOk iaaD fillD boxed D.cells D.okB optAll Nx inB wsIn_nil wsIn_cons put_fr fr_fr wsSub List.all_cons List.all_nil List.any_cons List.any_nil bq_t bq_f ne_i eq_i not_dec and_dec or_dec nat_lt nat_le nat_eq eqCells eqCell
attribute [go_sem ↓] sall gD qstep estep ecore Opd.ev put_at resD rvD callD fr_at idxD
attribute [go_sem] Int.natCast_one Int.natCast_zero Int.cast_ofNat_Int gt_iff_lt ge_iff_le Nat.zero_mul Nat.mul_one Nat.add_zero decide_true decide_false Bool.true_and Bool.false_and Bool.and_true Bool.and_false Bool.or_false Bool.or_true Bool.false_or Bool.true_or Nat.zero_le Nat.zero_lt_succ Nat.succ_pos List.take_succ_cons List.take_zero List.drop_zero List.drop_succ_cons List.drop_nil List.set_cons_zero List.set_cons_succ List.nil_append List.cons_append List.append_nil Nat.zero_add Nat.le_refl Nat.lt_irrefl and_self true_and and_true false_and and_false or_true true_or or_false false_or or_self List.getElem?_cons_zero List.getElem?_cons_succ List.length_cons List.length_nil List.getD_cons_zero List.getD_cons_succ List.getD_nil List.length_map Option.map_some Option.map_none Option.bind_some Option.some.injEq List.map_cons List.map_nil Bool.not_true Bool.not_false if_true if_false Option.getD_some Option.getD_none exists_eq_left' not_true_eq_false not_false_eq_true
attribute [go_sem] Nat.reduceBEq Int.reduceLT Int.reduceLE Int.reduceToNat Int.reduceAdd Int.reduceSub Int.reduceMul Int.reduceNeg Int.reduceEq Int.reduceBEq Nat.reduceAdd Nat.reduceLeDiff Nat.reduceMul Nat.reduceSub Nat.reduceLT Nat.reduceEqDiff reduceCtorEq
attribute [go_sem ↓] reduceIte
end Go.Proofs.Ytlagfebklcaaeaa

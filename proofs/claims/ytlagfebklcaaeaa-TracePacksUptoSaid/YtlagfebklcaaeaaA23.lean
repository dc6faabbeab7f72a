/- A value-level machine over the model, part 23: loops over a range. -/
import Derived.Test.YtlagfebklcaaeaaA22
import Derived.IntWalk
namespace Go.Proofs.Ytlagfebklcaaeaa
set_option linter.all false
/-- An int. -/
abbrev I (n : Int) : D := .int .i64 n
theorem w64 {n : Int} (h1 : -9223372036854775808 ≤ n) (h2 : n ≤ 9223372036854775807) : IntKind.i64.wrap n = n := Go.IntWalk.i64_in n ⟨h1, h2⟩
section
variable {P : Program} {n : Nat} {H : Heap} {T : Tm} {K : Tm → Heap → Prop} {X : Ex → Tm → Heap → Prop}
/-- Behind a round of a range. -/
def Nx (ti t1 : Nat) (J : Nat → Tm → Heap → Prop) (i : Nat) (T : Tm) (H : Heap) : Prop :=
  T ti = I i ∧ J (i + 1) (put (put T (some t1) (I (i + 1 : Nat))) (some ti) (I (i + 1 : Nat))) H
/-- A loop over the indices below N. -/
theorem IW.range {id k ti tn tc t1 : Nat} {body : IC} (N : Nat) (J : Nat → Tm → Heap → Prop) (hN : N ≤ 9223372036854775807) (h0 : J 0 T H)
    (hJ : ∀ i T H, J i T H → T ti = I i ∧ T tn = I N)
    (hb : ∀ i T H, i < N → J i T H → IW P n body (put T (some tc) (.bool true)) H (Nx ti t1 J i) (inB k (Nx ti t1 J i) (inB id K X)))
    (hk : ∀ T H, J N T H → K (put T (some tc) (.bool false)) H) :
    IW P n (.block id (.loop (.seq (.region [⟨some tc, none, .bin .lss (.t ti) (.t tn)⟩]) (.seq (.cond (.t tc) .skip (.exit id)) (.seq (.block k body)
      (.region [⟨some t1, none, .bin .add (.t ti) (.c (.int .i64 1))⟩, ⟨some ti, none, .mv (.t t1)⟩])))))) T H K X := by
  refine IW.block (IW.loop (fun m T H => ∃ i, m = N - i ∧ i ≤ N ∧ J i T H) N ⟨0, by omega, by omega, h0⟩ fun m T H ⟨i, hm, hi, hj⟩ => ?_)
  obtain ⟨e1, e2⟩ := hJ i T H hj
  refine IW.seq (IW.region (ROps.q (d := .bool (decide ((i : Int) < N))) (nb := none) (by simp [qstep, Opd.ev, e1, e2, binD, binInt]) (ROps.nil ?_)))
  rw [pushB_none]
  refine IW.seq (IW.cond (b := decide ((i : Int) < N)) (by simp [Opd.ev, put_at]) (fun hlt => ?_) fun hge => ?_)
  · have hlt' : i < N := by have := of_decide_eq_true hlt; omega
    refine IW.skip ?_
    rw [hlt]
    refine IW.seq (IW.block ?_)
    have hbd := hb i T H hlt' hj
    have fin : ∀ T1 H1, Nx ti t1 J i T1 H1 → IW P n (.region [⟨some t1, none, .bin .add (.t ti) (.c (.int .i64 1))⟩, ⟨some ti, none, .mv (.t t1)⟩]) T1 H1 (fun T1 H1 => ∃ m1, m1 < m ∧ ∃ i, m1 = N - i ∧ i ≤ N ∧ J i T1 H1) (inB id K X) := by
      intro T1 H1 ⟨f1, f2⟩
      refine IW.region (ROps.q (d := I (i + 1 : Nat)) (nb := none) (by
        simp only [qstep, Opd.ev, f1, binD, binInt, if_pos, Option.map_some]
        rw [w64 (by omega) (by omega)]
        simp) (ROps.q (d := I (i + 1 : Nat)) (nb := none) (by simp [qstep, Opd.ev, put_at]) (ROps.nil ?_)))
      exact ⟨N - (i + 1), by omega, i + 1, rfl, by omega, f2⟩
    refine hbd.mono fin fun e T1 H1 hx => ?_
    cases e with
    | ret => exact hx
    | exit j =>
      simp only [inB] at hx ⊢
      by_cases hj : j = k
      · rw [if_pos hj] at hx ⊢; exact fin _ _ hx
      · rw [if_neg hj] at hx ⊢; exact hx
  · have hge' : i = N := by have := of_decide_eq_false hge; omega
    subst hge'
    refine IW.exit ?_
    simp only [inB, if_true]
    rw [hge]
    exact hk T H hj
end
end Go.Proofs.Ytlagfebklcaaeaa

/- slices.Repeat of one element. -/
import Derived.Test.YtlagfebklcaaeaaA25
import Derived.Test.YtlagfebklcaaeaaTpTrd
namespace Go.Proofs.Ytlagfebklcaaeaa
set_option linter.all false
abbrev U (n : Int) : D := .int .u64 n
theorem mul64_ok (n : Int) (h0 : 0 ≤ n) (h1 : n < 4294967296) : Fn Try.prog 84 [U 1, U n] (.tup [U 0, U n]) := by
  refine Fn.of_pure ?_ rfl rfl
  refine AC.body cc84 (by simp [ic84]) ?_
  simp only [ic84]
  have a1 := and32 (a := 1) (by decide) (by decide)
  have a2 := and32 h0 h1
  have a0 := and32 (a := 0) (by decide) (by decide)
  have s1 := shr32 (a := 1) (by decide) (by decide)
  have s2 := shr32 h0 h1
  have s0 := shr32 (a := 0) (by decide) (by decide)
  have w1 : IntKind.u64.wrap 1 = 1 := rfl
  have w0 : IntKind.u64.wrap 0 = 0 := rfl
  have wn := wu64 h0 (by omega)
  simp only [go_sem] at a0 a1 a2 s0 s1 s2
  repeat (first | refine IW.seq ?_ | refine IW.region ?_ | (apply ROps.q0; focus (simp only [go_sem, U, shiftD, a0, a1, a2, s0, s1, s2, w0, w1, wn, Int.one_mul, Int.zero_mul, Int.mul_zero, Int.add_zero, Int.zero_add]; rfl)) | (apply ROps.q; focus (simp only [go_sem, U, shiftD, a0, a1, a2, s0, s1, s2, w0, w1, wn, Int.one_mul, Int.zero_mul, Int.mul_zero, Int.add_zero, Int.zero_add]; rfl)) | refine ROps.nil ?_ | refine IW.skip ?_ | refine IW.dquiet rfl ?_ | (apply QRun.q; focus (simp only [go_sem, U, shiftD, a0, a1, a2, s0, s1, s2, w0, w1, wn, Int.one_mul, Int.zero_mul, Int.mul_zero, Int.add_zero, Int.zero_add]; rfl)) | refine QRun.nil ?_ | (apply ROps.e; focus (simp only [estep, ecore, blkOf_new, modH_some, modH_none, go_sem, U, shiftD, a0, a1, a2, s0, s1, s2, w0, w1, wn, Int.one_mul, Int.zero_mul, Int.mul_zero, Int.add_zero, Int.zero_add]; rfl)) | (refine ROps.gt ?_ ?_; focus (simp only [go_sem, U, shiftD, a0, a1, a2, s0, s1, s2, w0, w1, wn, Int.one_mul, Int.zero_mul, Int.mul_zero, Int.add_zero, Int.zero_add]; done)) | (refine ROps.gf (v := false) ?_ Bool.false_ne_true ?_; focus (simp only [go_sem, U, shiftD, a0, a1, a2, s0, s1, s2, w0, w1, wn, Int.one_mul, Int.zero_mul, Int.mul_zero, Int.add_zero, Int.zero_add]; done)) | (refine ROps.gf (v := true) ?_ (fun h => Bool.false_ne_true h.symm) ?_; focus (simp only [go_sem, U, shiftD, a0, a1, a2, s0, s1, s2, w0, w1, wn, Int.one_mul, Int.zero_mul, Int.mul_zero, Int.add_zero, Int.zero_add]; done)) | (refine ROps.gn ?_ ?_; focus (simp only [go_sem, U, shiftD, a0, a1, a2, s0, s1, s2, w0, w1, wn, Int.one_mul, Int.zero_mul, Int.mul_zero, Int.add_zero, Int.zero_add]; done)) | (refine QRun.gt ?_ ?_; focus (simp only [go_sem, U, shiftD, a0, a1, a2, s0, s1, s2, w0, w1, wn, Int.one_mul, Int.zero_mul, Int.mul_zero, Int.add_zero, Int.zero_add]; done)) | (refine QRun.gf (v := false) ?_ Bool.false_ne_true ?_; focus (simp only [go_sem, U, shiftD, a0, a1, a2, s0, s1, s2, w0, w1, wn, Int.one_mul, Int.zero_mul, Int.mul_zero, Int.add_zero, Int.zero_add]; done)) | (refine QRun.gf (v := true) ?_ (fun h => Bool.false_ne_true h.symm) ?_; focus (simp only [go_sem, U, shiftD, a0, a1, a2, s0, s1, s2, w0, w1, wn, Int.one_mul, Int.zero_mul, Int.mul_zero, Int.add_zero, Int.zero_add]; done)) | (refine IW.cond (b := true) ?_ (fun _ => ?_) (fun h => absurd h.symm Bool.false_ne_true); focus (simp only [go_sem, U, shiftD, a0, a1, a2, s0, s1, s2, w0, w1, wn, Int.one_mul, Int.zero_mul, Int.mul_zero, Int.add_zero, Int.zero_add]; done)) | (refine IW.cond (b := false) ?_ (fun h => absurd h Bool.false_ne_true) (fun _ => ?_); focus (simp only [go_sem, U, shiftD, a0, a1, a2, s0, s1, s2, w0, w1, wn, Int.one_mul, Int.zero_mul, Int.mul_zero, Int.add_zero, Int.zero_add]; done)) | fail)
  refine IW.ret ?_
  simp only [Nx, inB, resD, rvD, exists_eq_left', go_sem]
theorem mul_ok (n : Int) (h0 : 0 ≤ n) (h1 : n < 4294967296) : Fn Try.prog 38 [U 1, U n] (.tup [U 0, U n]) := by
  refine Fn.of_pure ?_ rfl rfl
  refine AC.body cc38 (by simp [ic38]) ?_
  simp only [ic38]
  repeat (first | refine IW.seq ?_ | refine IW.region ?_ | (apply ROps.q0; focus (simp only [go_sem, U]; rfl)) | (apply ROps.q; focus (simp only [go_sem, U]; rfl)) | refine ROps.nil ?_ | refine IW.skip ?_ | refine IW.dquiet rfl ?_ | (apply QRun.q; focus (simp only [go_sem, U]; rfl)) | refine QRun.nil ?_ | (apply ROps.e; focus (simp only [estep, ecore, blkOf_new, modH_some, modH_none, go_sem, U]; rfl)) | (refine ROps.gt ?_ ?_; focus (simp only [go_sem, U]; done)) | (refine ROps.gf (v := false) ?_ Bool.false_ne_true ?_; focus (simp only [go_sem, U]; done)) | (refine ROps.gf (v := true) ?_ (fun h => Bool.false_ne_true h.symm) ?_; focus (simp only [go_sem, U]; done)) | (refine ROps.gn ?_ ?_; focus (simp only [go_sem, U]; done)) | (refine QRun.gt ?_ ?_; focus (simp only [go_sem, U]; done)) | (refine QRun.gf (v := false) ?_ Bool.false_ne_true ?_; focus (simp only [go_sem, U]; done)) | (refine QRun.gf (v := true) ?_ (fun h => Bool.false_ne_true h.symm) ?_; focus (simp only [go_sem, U]; done)) | (refine IW.cond (b := true) ?_ (fun _ => ?_) (fun h => absurd h.symm Bool.false_ne_true); focus (simp only [go_sem, U]; done)) | (refine IW.cond (b := false) ?_ (fun h => absurd h Bool.false_ne_true) (fun _ => ?_); focus (simp only [go_sem, U]; done)) | fail)
  refine ROps.f (by simp only [callD, go_sem, U]) (mul64_ok n h0 h1) ?_
  repeat (first | refine IW.seq ?_ | refine IW.region ?_ | (apply ROps.q0; focus (simp only [go_sem, U]; rfl)) | (apply ROps.q; focus (simp only [go_sem, U]; rfl)) | refine ROps.nil ?_ | refine IW.skip ?_ | refine IW.dquiet rfl ?_ | (apply QRun.q; focus (simp only [go_sem, U]; rfl)) | refine QRun.nil ?_ | (apply ROps.e; focus (simp only [estep, ecore, blkOf_new, modH_some, modH_none, go_sem, U]; rfl)) | (refine ROps.gt ?_ ?_; focus (simp only [go_sem, U]; done)) | (refine ROps.gf (v := false) ?_ Bool.false_ne_true ?_; focus (simp only [go_sem, U]; done)) | (refine ROps.gf (v := true) ?_ (fun h => Bool.false_ne_true h.symm) ?_; focus (simp only [go_sem, U]; done)) | (refine ROps.gn ?_ ?_; focus (simp only [go_sem, U]; done)) | (refine QRun.gt ?_ ?_; focus (simp only [go_sem, U]; done)) | (refine QRun.gf (v := false) ?_ Bool.false_ne_true ?_; focus (simp only [go_sem, U]; done)) | (refine QRun.gf (v := true) ?_ (fun h => Bool.false_ne_true h.symm) ?_; focus (simp only [go_sem, U]; done)) | (refine IW.cond (b := true) ?_ (fun _ => ?_) (fun h => absurd h.symm Bool.false_ne_true); focus (simp only [go_sem, U]; done)) | (refine IW.cond (b := false) ?_ (fun h => absurd h Bool.false_ne_true) (fun _ => ?_); focus (simp only [go_sem, U]; done)) | fail)
  refine IW.ret ?_
  simp only [Nx, inB, resD, rvD, exists_eq_left', go_sem]
theorem rep_alg {α : Type} (c z : α) {p q n : Nat} (hq : q ≤ p) (h : p + q ≤ n) : (List.replicate p c ++ List.replicate (n - p) z).take p ++ (List.replicate p c).take q ++ (List.replicate p c ++ List.replicate (n - p) z).drop (p + q) = List.replicate (p + q) c ++ List.replicate (n - (p + q)) z := by
  rw [List.take_left' (by simp), List.take_replicate, Nat.min_eq_left hq, List.replicate_append_replicate, List.drop_append, List.drop_replicate, List.drop_replicate, List.length_replicate]
  have e1 : p - (p + q) = 0 := by omega
  have e2 : n - p - (p + q - p) = n - (p + q) := by omega
  rw [e1, e2]
  simp
/-- Where the copies of one element stand. -/
def repJ (x : Bus) (n b : Nat) (g : Bool) (m : Nat) (T : Tm) (H : Heap) : Prop :=
  ∃ p, m = n - p ∧ p ≤ n ∧ (0 < n → 0 < p) ∧ T 8 = I p ∧ T 7 = .osl b 0 n g ∧ blkOf H b = some ⟨26, 3, List.replicate p (busC x) ++ List.replicate (n - p) [I 0, I 0, I 0], 0⟩
theorem repeat_ok (x : Bus) (f : Bool) (n : Nat) (hn : n ≤ 1000000) : FnOwn Try.prog 8 [.sl 3 f [busC x], I n] 26 3 ((List.replicate n x).map busC) := by
  refine FnOwn.of ?_ (by simp [pureL, pureD, pureR, busC]) (pure_map (fun _ => rfl) _)
  refine AC.body cc8 (by simp [ic8]) ?_
  simp only [ic8]
  have c0 : ¬ ((n : Int) < 0) := by omega
  have wn := wu64 (a := (n : Int)) (by omega) (by omega)
  have w1 : IntKind.u64.wrap 1 = 1 := rfl
  have wi : IntKind.i64.wrap (n : Int) = n := w64 (by omega) (by omega)
  have c1 : ¬ ((9223372036854775807 : Int) < n) := by omega
  repeat (first | refine IW.seq ?_ | refine IW.region ?_ | (apply ROps.q0; focus (simp only [go_sem, c0, wn, w1]; rfl)) | (apply ROps.q; focus (simp only [go_sem, c0, wn, w1]; rfl)) | refine ROps.nil ?_ | refine IW.skip ?_ | refine IW.dquiet rfl ?_ | (apply QRun.q; focus (simp only [go_sem, c0, wn, w1]; rfl)) | refine QRun.nil ?_ | (apply ROps.e; focus (simp only [estep, ecore, blkOf_new, modH_some, modH_none, go_sem, c0, wn, w1]; rfl)) | (refine ROps.gt ?_ ?_; focus (simp only [go_sem, c0, wn, w1]; done)) | (refine ROps.gf (v := false) ?_ Bool.false_ne_true ?_; focus (simp only [go_sem, c0, wn, w1]; done)) | (refine ROps.gf (v := true) ?_ (fun h => Bool.false_ne_true h.symm) ?_; focus (simp only [go_sem, c0, wn, w1]; done)) | (refine ROps.gn ?_ ?_; focus (simp only [go_sem, c0, wn, w1]; done)) | (refine QRun.gt ?_ ?_; focus (simp only [go_sem, c0, wn, w1]; done)) | (refine QRun.gf (v := false) ?_ Bool.false_ne_true ?_; focus (simp only [go_sem, c0, wn, w1]; done)) | (refine QRun.gf (v := true) ?_ (fun h => Bool.false_ne_true h.symm) ?_; focus (simp only [go_sem, c0, wn, w1]; done)) | (refine IW.cond (b := true) ?_ (fun _ => ?_) (fun h => absurd h.symm Bool.false_ne_true); focus (simp only [go_sem, c0, wn, w1]; done)) | (refine IW.cond (b := false) ?_ (fun h => absurd h Bool.false_ne_true) (fun _ => ?_); focus (simp only [go_sem, c0, wn, w1]; done)) | fail)
  refine ROps.f (by simp only [callD, go_sem, U]) (mul_ok n (by omega) (by omega)) ?_
  repeat (first | refine IW.seq ?_ | refine IW.region ?_ | (apply ROps.q0; focus (simp only [go_sem, c0, c1, U, wi]; rfl)) | (apply ROps.q; focus (simp only [go_sem, c0, c1, U, wi]; rfl)) | refine ROps.nil ?_ | refine IW.skip ?_ | refine IW.dquiet rfl ?_ | (apply QRun.q; focus (simp only [go_sem, c0, c1, U, wi]; rfl)) | refine QRun.nil ?_ | (apply ROps.e; focus (simp only [estep, ecore, blkOf_new, modH_some, modH_none, go_sem, c0, c1, U, wi]; rfl)) | (refine ROps.gt ?_ ?_; focus (simp only [go_sem, c0, c1, U, wi]; done)) | (refine ROps.gf (v := false) ?_ Bool.false_ne_true ?_; focus (simp only [go_sem, c0, c1, U, wi]; done)) | (refine ROps.gf (v := true) ?_ (fun h => Bool.false_ne_true h.symm) ?_; focus (simp only [go_sem, c0, c1, U, wi]; done)) | (refine ROps.gn ?_ ?_; focus (simp only [go_sem, c0, c1, U, wi]; done)) | (refine QRun.gt ?_ ?_; focus (simp only [go_sem, c0, c1, U, wi]; done)) | (refine QRun.gf (v := false) ?_ Bool.false_ne_true ?_; focus (simp only [go_sem, c0, c1, U, wi]; done)) | (refine QRun.gf (v := true) ?_ (fun h => Bool.false_ne_true h.symm) ?_; focus (simp only [go_sem, c0, c1, U, wi]; done)) | (refine IW.cond (b := true) ?_ (fun _ => ?_) (fun h => absurd h.symm Bool.false_ne_true); focus (simp only [go_sem, c0, c1, U, wi]; done)) | (refine IW.cond (b := false) ?_ (fun h => absurd h Bool.false_ne_true) (fun _ => ?_); focus (simp only [go_sem, c0, c1, U, wi]; done)) | fail)
  refine ROps.q (d := .osl 0 0 n true) (nb := some ⟨26, 3, List.replicate n [I 0, I 0, I 0], 0⟩) ?_ ?_
  · simp only [go_sem]
    split
    · simp
    · rename_i h
      exact absurd (by refine ⟨?_, ?_⟩ <;> omega) h
  repeat (first | refine IW.seq ?_ | refine IW.region ?_ | (apply ROps.q0; focus (simp only [go_sem]; rfl)) | (apply ROps.q; focus (simp only [go_sem]; rfl)) | refine ROps.nil ?_ | refine IW.skip ?_ | refine IW.dquiet rfl ?_ | (apply QRun.q; focus (simp only [go_sem]; rfl)) | refine QRun.nil ?_ | (apply ROps.e; focus (simp only [estep, ecore, blkOf_new, modH_some, modH_none, go_sem]; rfl)) | (refine ROps.gt ?_ ?_; focus (simp only [go_sem]; done)) | (refine ROps.gf (v := false) ?_ Bool.false_ne_true ?_; focus (simp only [go_sem]; done)) | (refine ROps.gf (v := true) ?_ (fun h => Bool.false_ne_true h.symm) ?_; focus (simp only [go_sem]; done)) | (refine ROps.gn ?_ ?_; focus (simp only [go_sem]; done)) | (refine QRun.gt ?_ ?_; focus (simp only [go_sem]; done)) | (refine QRun.gf (v := false) ?_ Bool.false_ne_true ?_; focus (simp only [go_sem]; done)) | (refine QRun.gf (v := true) ?_ (fun h => Bool.false_ne_true h.symm) ?_; focus (simp only [go_sem]; done)) | (refine IW.cond (b := true) ?_ (fun _ => ?_) (fun h => absurd h.symm Bool.false_ne_true); focus (simp only [go_sem]; done)) | (refine IW.cond (b := false) ?_ (fun h => absurd h Bool.false_ne_true) (fun _ => ?_); focus (simp only [go_sem]; done)) | fail)
  refine ROps.e (estep_of (ecore_cpy (b := 0) (o := 0) (m := n) (f := true) (by simp only [go_sem]) rfl (by simp) (news := [busC x]) (by simp only [go_sem]; exact newsD_sl (.inl rfl)))) ?_
  repeat (first | refine IW.seq ?_ | refine IW.region ?_ | (apply ROps.q0; focus (simp only [go_sem]; rfl)) | (apply ROps.q; focus (simp only [go_sem]; rfl)) | refine ROps.nil ?_ | refine IW.skip ?_ | refine IW.dquiet rfl ?_ | (apply QRun.q; focus (simp only [go_sem]; rfl)) | refine QRun.nil ?_ | (apply ROps.e; focus (simp only [estep, ecore, blkOf_new, modH_some, modH_none, go_sem]; rfl)) | (refine ROps.gt ?_ ?_; focus (simp only [go_sem]; done)) | (refine ROps.gf (v := false) ?_ Bool.false_ne_true ?_; focus (simp only [go_sem]; done)) | (refine ROps.gf (v := true) ?_ (fun h => Bool.false_ne_true h.symm) ?_; focus (simp only [go_sem]; done)) | (refine ROps.gn ?_ ?_; focus (simp only [go_sem]; done)) | (refine QRun.gt ?_ ?_; focus (simp only [go_sem]; done)) | (refine QRun.gf (v := false) ?_ Bool.false_ne_true ?_; focus (simp only [go_sem]; done)) | (refine QRun.gf (v := true) ?_ (fun h => Bool.false_ne_true h.symm) ?_; focus (simp only [go_sem]; done)) | (refine IW.cond (b := true) ?_ (fun _ => ?_) (fun h => absurd h.symm Bool.false_ne_true); focus (simp only [go_sem]; done)) | (refine IW.cond (b := false) ?_ (fun h => absurd h Bool.false_ne_true) (fun _ => ?_); focus (simp only [go_sem]; done)) | fail)
  have zl : ([I 0, I 0, I 0] : List D).length = 3 := rfl
  refine IW.block (IW.loop (repJ x n 0 true) (n - min 1 n) ⟨min 1 n, rfl, by omega, by omega, by simp only [go_sem], by simp only [go_sem], ?_⟩ ?_)
  · simp only [go_sem, pushB, modH, List.set_cons_zero]
    have e : List.take (min 1 n) [busC x] ++ List.drop (min 1 n) (List.replicate n ([I 0, I 0, I 0] : List D)) = List.replicate (min 1 n) (busC x) ++ List.replicate (n - min 1 n) [I 0, I 0, I 0] := by
      rw [List.drop_replicate]
      congr 1
      rcases Nat.eq_zero_or_pos n with h | h
      · subst h; rfl
      · rw [Nat.min_eq_left h]; rfl
    rw [e]
    rfl
  · rintro m T H ⟨p, hm, hp, hp0, h8, h7, hb⟩
    by_cases c : p < n
    · have c' : (p : Int) < n := by omega
      repeat (first | refine IW.seq ?_ | refine IW.region ?_ | (apply ROps.q0; focus (simp only [go_sem, h8, h7, c']; rfl)) | (apply ROps.q; focus (simp only [go_sem, h8, h7, c']; rfl)) | refine ROps.nil ?_ | refine IW.skip ?_ | refine IW.dquiet rfl ?_ | (apply QRun.q; focus (simp only [go_sem, h8, h7, c']; rfl)) | refine QRun.nil ?_ | (apply ROps.e; focus (simp only [estep, ecore, blkOf_new, modH_some, modH_none, go_sem, h8, h7, c']; rfl)) | (refine ROps.gt ?_ ?_; focus (simp only [go_sem, h8, h7, c']; done)) | (refine ROps.gf (v := false) ?_ Bool.false_ne_true ?_; focus (simp only [go_sem, h8, h7, c']; done)) | (refine ROps.gf (v := true) ?_ (fun h => Bool.false_ne_true h.symm) ?_; focus (simp only [go_sem, h8, h7, c']; done)) | (refine ROps.gn ?_ ?_; focus (simp only [go_sem, h8, h7, c']; done)) | (refine QRun.gt ?_ ?_; focus (simp only [go_sem, h8, h7, c']; done)) | (refine QRun.gf (v := false) ?_ Bool.false_ne_true ?_; focus (simp only [go_sem, h8, h7, c']; done)) | (refine QRun.gf (v := true) ?_ (fun h => Bool.false_ne_true h.symm) ?_; focus (simp only [go_sem, h8, h7, c']; done)) | (refine IW.cond (b := true) ?_ (fun _ => ?_) (fun h => absurd h.symm Bool.false_ne_true); focus (simp only [go_sem, h8, h7, c']; done)) | (refine IW.cond (b := false) ?_ (fun h => absurd h Bool.false_ne_true) (fun _ => ?_); focus (simp only [go_sem, h8, h7, c']; done)) | fail)
      refine IW.block (IW.draw ?_)
      repeat (first | (apply DRun.q; focus (simp only [go_sem, h8, h7]; rfl)) | fail)
      refine DRun.q (qstep_slc (i := p) (j := n) (b := 0) (o := 0) (m := n) (f := true) (by simp only [go_sem]) (by simp only [idxD, go_sem]) rfl hp (Nat.le_refl n) hb rfl) ?_
      repeat (first | (apply DRun.q; focus (simp only [go_sem, h8, h7]; rfl)) | fail)
      refine DRun.q (qstep_slc (i := 0) (j := p) (b := 0) (o := 0) (m := n) (f := true) (by simp only [go_sem]) rfl (by simp only [idxD, go_sem]) (Nat.zero_le p) hp hb rfl) ?_
      have hnews : newsD H 3 (.osl 0 (0 + 0) (p - 0) (true && false)) = some (List.replicate p (busC x)) := by
        rw [newsD_part hb (by simp <;> omega)]
        simp [List.take_append] <;> rfl
      refine DRun.e (ecore_cpy (b := 0) (o := 0 + p) (m := n - p) (f := true && true) (by simp only [go_sem] <;> rfl) hb (by simp <;> omega) (news := List.replicate p (busC x)) (by simp only [go_sem]; exact hnews)) ?_
      have hw : IntKind.i64.wrap ((p : Int) + ((min p (n - p) : Nat) : Int)) = ((p + min p (n - p) : Nat) : Int) := by rw [w64 (by omega) (by omega)]; omega
      repeat (first | (apply DRun.q; focus (simp only [go_sem, List.length_replicate, hw]; rfl)) | fail)
      refine DRun.nil ?_ ?_
      · rfl
      · refine ⟨n - (p + min p (n - p)), by omega, p + min p (n - p), rfl, by omega, by omega, by simp only [go_sem], by simp only [go_sem, h7], ?_⟩
        simp only [Nat.zero_add, List.length_replicate]
        rw [blkOf_set_same (blkOf_lt hb), rep_alg _ _ (Nat.min_le_left _ _) (by omega)]
    · have c' : ¬ (p : Int) < n := by omega
      repeat (first | refine IW.seq ?_ | refine IW.region ?_ | (apply ROps.q0; focus (simp only [go_sem, h8, h7, c']; rfl)) | (apply ROps.q; focus (simp only [go_sem, h8, h7, c']; rfl)) | refine ROps.nil ?_ | refine IW.skip ?_ | refine IW.dquiet rfl ?_ | (apply QRun.q; focus (simp only [go_sem, h8, h7, c']; rfl)) | refine QRun.nil ?_ | (apply ROps.e; focus (simp only [estep, ecore, blkOf_new, modH_some, modH_none, go_sem, h8, h7, c']; rfl)) | (refine ROps.gt ?_ ?_; focus (simp only [go_sem, h8, h7, c']; done)) | (refine ROps.gf (v := false) ?_ Bool.false_ne_true ?_; focus (simp only [go_sem, h8, h7, c']; done)) | (refine ROps.gf (v := true) ?_ (fun h => Bool.false_ne_true h.symm) ?_; focus (simp only [go_sem, h8, h7, c']; done)) | (refine ROps.gn ?_ ?_; focus (simp only [go_sem, h8, h7, c']; done)) | (refine QRun.gt ?_ ?_; focus (simp only [go_sem, h8, h7, c']; done)) | (refine QRun.gf (v := false) ?_ Bool.false_ne_true ?_; focus (simp only [go_sem, h8, h7, c']; done)) | (refine QRun.gf (v := true) ?_ (fun h => Bool.false_ne_true h.symm) ?_; focus (simp only [go_sem, h8, h7, c']; done)) | (refine IW.cond (b := true) ?_ (fun _ => ?_) (fun h => absurd h.symm Bool.false_ne_true); focus (simp only [go_sem, h8, h7, c']; done)) | (refine IW.cond (b := false) ?_ (fun h => absurd h Bool.false_ne_true) (fun _ => ?_); focus (simp only [go_sem, h8, h7, c']; done)) | fail)
      refine IW.exit ?_
      simp only [inB, if_true]
      have : p = n := by omega
      subst this
      repeat (first | refine IW.seq ?_ | refine IW.region ?_ | (apply ROps.q0; focus (simp only [go_sem, h7]; rfl)) | (apply ROps.q; focus (simp only [go_sem, h7]; rfl)) | refine ROps.nil ?_ | refine IW.skip ?_ | refine IW.dquiet rfl ?_ | (apply QRun.q; focus (simp only [go_sem, h7]; rfl)) | refine QRun.nil ?_ | (apply ROps.e; focus (simp only [estep, ecore, blkOf_new, modH_some, modH_none, go_sem, h7]; rfl)) | (refine ROps.gt ?_ ?_; focus (simp only [go_sem, h7]; done)) | (refine ROps.gf (v := false) ?_ Bool.false_ne_true ?_; focus (simp only [go_sem, h7]; done)) | (refine ROps.gf (v := true) ?_ (fun h => Bool.false_ne_true h.symm) ?_; focus (simp only [go_sem, h7]; done)) | (refine ROps.gn ?_ ?_; focus (simp only [go_sem, h7]; done)) | (refine QRun.gt ?_ ?_; focus (simp only [go_sem, h7]; done)) | (refine QRun.gf (v := false) ?_ Bool.false_ne_true ?_; focus (simp only [go_sem, h7]; done)) | (refine QRun.gf (v := true) ?_ (fun h => Bool.false_ne_true h.symm) ?_; focus (simp only [go_sem, h7]; done)) | (refine IW.cond (b := true) ?_ (fun _ => ?_) (fun h => absurd h.symm Bool.false_ne_true); focus (simp only [go_sem, h7]; done)) | (refine IW.cond (b := false) ?_ (fun h => absurd h Bool.false_ne_true) (fun _ => ?_); focus (simp only [go_sem, h7]; done)) | fail)
      refine IW.ret ⟨_, by simp only [resD, rvD, go_sem]; rfl, ?_⟩
      exact ⟨0, _, true, _, rfl, by simp, hb, rfl, rfl, rfl, by simp⟩
end Go.Proofs.Ytlagfebklcaaeaa

/- slices.Index and slices.Contains at int: where a number stands in a list, and whether it does. -/
import Derived.Test.YtlagfebklcaaeaaA24
import Derived.Test.YtlagfebklcaaeaaTpC
namespace Go.Proofs.Ytlagfebklcaaeaa
set_option linter.all false
def iC (n : Int) : List D := [I n]
theorem idxOf_at {v : Int} : ∀ {l : List Int} {i : Nat} (hi : i < l.length), v = l[i] → v ∉ l.take i → l.idxOf v = i
  | [], i, hi, _, _ => by simp at hi
  | a :: l, 0, hi, h, _ => by simp at h; simp [List.idxOf_cons, h]
  | a :: l, i + 1, hi, h, hn => by
    simp only [List.take_succ_cons, List.mem_cons, not_or] at hn
    have := idxOf_at (l := l) (i := i) (by simpa using hi) (by simpa using h) hn.2
    rw [List.idxOf_cons]
    have hne : (a == v) = false := by simpa using fun e => hn.1 e.symm
    simp [hne, this]
theorem index_ok (l : List Int) (full : Bool) (v : Int) (hl : l.length ≤ 1048576) : Fn Try.prog 39 [.sl 1 full (l.map iC), I v] (I (if v ∈ l then (l.idxOf v : Int) else -1)) := by
  refine Fn.of_pure ?_ ?_ rfl
  · refine AC.body cc39 (by simp [ic39]) ?_
    simp only [ic39]
    repeat (first | refine IW.seq ?_ | refine IW.region ?_ | (apply ROps.q0; focus (simp only [go_sem]; rfl)) | (apply ROps.q; focus (simp only [go_sem]; rfl)) | refine ROps.nil ?_ | refine IW.skip ?_ | refine IW.dquiet rfl ?_ | (apply QRun.q; focus (simp only [go_sem]; rfl)) | refine QRun.nil ?_ | (apply ROps.e; focus (simp only [estep, ecore, blkOf_new, modH_some, modH_none, go_sem]; rfl)) | (refine ROps.gt ?_ ?_; focus (simp only [go_sem]; done)) | (refine ROps.gf (v := false) ?_ Bool.false_ne_true ?_; focus (simp only [go_sem]; done)) | (refine ROps.gf (v := true) ?_ (fun h => Bool.false_ne_true h.symm) ?_; focus (simp only [go_sem]; done)) | (refine ROps.gn ?_ ?_; focus (simp only [go_sem]; done)) | (refine QRun.gt ?_ ?_; focus (simp only [go_sem]; done)) | (refine QRun.gf (v := false) ?_ Bool.false_ne_true ?_; focus (simp only [go_sem]; done)) | (refine QRun.gf (v := true) ?_ (fun h => Bool.false_ne_true h.symm) ?_; focus (simp only [go_sem]; done)) | (refine IW.cond (b := true) ?_ (fun _ => ?_) (fun h => absurd h.symm Bool.false_ne_true); focus (simp only [go_sem]; done)) | (refine IW.cond (b := false) ?_ (fun h => absurd h Bool.false_ne_true) (fun _ => ?_); focus (simp only [go_sem]; done)) | fail)
    refine IW.range (id := 0) (k := 1) (ti := 8) (tn := 7) (tc := 9) (t1 := 18) l.length (fun i T H => T 6 = .sl 1 full (l.map iC) ∧ T 0 = .sl 1 full (l.map iC) ∧ T 1 = I v ∧ T 7 = I l.length ∧ T 8 = I i ∧ v ∉ l.take i) (by omega) ?_ ?_ ?_ ?_
    · simp [put_at, args0, pushB_none]
    · rintro i T H ⟨h6, h0, h1, h7, h8, _⟩
      exact ⟨h8, h7⟩
    · rintro i T H hi ⟨h6, h0, h1, h7, h8, hn⟩
      have hc : (l.map iC)[i]? = some [I l[i]] := by simp [iC, hi]
      by_cases e : v = l[i]
      · have e' : (v == l[i]) = true := by simpa using e
        repeat (first | refine IW.seq ?_ | refine IW.region ?_ | (apply ROps.q0; focus (simp only [go_sem, h6, h0, h1, h7, h8, iasD_sl hc, e']; rfl)) | (apply ROps.q; focus (simp only [go_sem, h6, h0, h1, h7, h8, iasD_sl hc, e']; rfl)) | refine ROps.nil ?_ | refine IW.skip ?_ | refine IW.dquiet rfl ?_ | (apply QRun.q; focus (simp only [go_sem, h6, h0, h1, h7, h8, iasD_sl hc, e']; rfl)) | refine QRun.nil ?_ | (apply ROps.e; focus (simp only [estep, ecore, blkOf_new, modH_some, modH_none, go_sem, h6, h0, h1, h7, h8, iasD_sl hc, e']; rfl)) | (refine ROps.gt ?_ ?_; focus (simp only [go_sem, h6, h0, h1, h7, h8, iasD_sl hc, e']; done)) | (refine ROps.gf (v := false) ?_ Bool.false_ne_true ?_; focus (simp only [go_sem, h6, h0, h1, h7, h8, iasD_sl hc, e']; done)) | (refine ROps.gf (v := true) ?_ (fun h => Bool.false_ne_true h.symm) ?_; focus (simp only [go_sem, h6, h0, h1, h7, h8, iasD_sl hc, e']; done)) | (refine ROps.gn ?_ ?_; focus (simp only [go_sem, h6, h0, h1, h7, h8, iasD_sl hc, e']; done)) | (refine QRun.gt ?_ ?_; focus (simp only [go_sem, h6, h0, h1, h7, h8, iasD_sl hc, e']; done)) | (refine QRun.gf (v := false) ?_ Bool.false_ne_true ?_; focus (simp only [go_sem, h6, h0, h1, h7, h8, iasD_sl hc, e']; done)) | (refine QRun.gf (v := true) ?_ (fun h => Bool.false_ne_true h.symm) ?_; focus (simp only [go_sem, h6, h0, h1, h7, h8, iasD_sl hc, e']; done)) | (refine IW.cond (b := true) ?_ (fun _ => ?_) (fun h => absurd h.symm Bool.false_ne_true); focus (simp only [go_sem, h6, h0, h1, h7, h8, iasD_sl hc, e']; done)) | (refine IW.cond (b := false) ?_ (fun h => absurd h Bool.false_ne_true) (fun _ => ?_); focus (simp only [go_sem, h6, h0, h1, h7, h8, iasD_sl hc, e']; done)) | fail)
        refine IW.ret ?_
        simp only [Nx, inB, resD, rvD, exists_eq_left', go_sem]
        rw [if_pos (by rw [e]; exact List.getElem_mem hi)]
        rw [idxOf_at hi e hn]
      · have e' : (v == l[i]) = false := by simpa using e
        repeat (first | refine IW.seq ?_ | refine IW.region ?_ | (apply ROps.q0; focus (simp only [go_sem, h6, h0, h1, h7, h8, iasD_sl hc, e']; rfl)) | (apply ROps.q; focus (simp only [go_sem, h6, h0, h1, h7, h8, iasD_sl hc, e']; rfl)) | refine ROps.nil ?_ | refine IW.skip ?_ | refine IW.dquiet rfl ?_ | (apply QRun.q; focus (simp only [go_sem, h6, h0, h1, h7, h8, iasD_sl hc, e']; rfl)) | refine QRun.nil ?_ | (apply ROps.e; focus (simp only [estep, ecore, blkOf_new, modH_some, modH_none, go_sem, h6, h0, h1, h7, h8, iasD_sl hc, e']; rfl)) | (refine ROps.gt ?_ ?_; focus (simp only [go_sem, h6, h0, h1, h7, h8, iasD_sl hc, e']; done)) | (refine ROps.gf (v := false) ?_ Bool.false_ne_true ?_; focus (simp only [go_sem, h6, h0, h1, h7, h8, iasD_sl hc, e']; done)) | (refine ROps.gf (v := true) ?_ (fun h => Bool.false_ne_true h.symm) ?_; focus (simp only [go_sem, h6, h0, h1, h7, h8, iasD_sl hc, e']; done)) | (refine ROps.gn ?_ ?_; focus (simp only [go_sem, h6, h0, h1, h7, h8, iasD_sl hc, e']; done)) | (refine QRun.gt ?_ ?_; focus (simp only [go_sem, h6, h0, h1, h7, h8, iasD_sl hc, e']; done)) | (refine QRun.gf (v := false) ?_ Bool.false_ne_true ?_; focus (simp only [go_sem, h6, h0, h1, h7, h8, iasD_sl hc, e']; done)) | (refine QRun.gf (v := true) ?_ (fun h => Bool.false_ne_true h.symm) ?_; focus (simp only [go_sem, h6, h0, h1, h7, h8, iasD_sl hc, e']; done)) | (refine IW.cond (b := true) ?_ (fun _ => ?_) (fun h => absurd h.symm Bool.false_ne_true); focus (simp only [go_sem, h6, h0, h1, h7, h8, iasD_sl hc, e']; done)) | (refine IW.cond (b := false) ?_ (fun h => absurd h Bool.false_ne_true) (fun _ => ?_); focus (simp only [go_sem, h6, h0, h1, h7, h8, iasD_sl hc, e']; done)) | fail)
        simp only [Nx, inB, resD, rvD, exists_eq_left', go_sem, h6, h0, h1, h7, h8]
        intro hm
        rw [List.take_add_one, List.getElem?_eq_getElem hi] at hm
        rcases List.mem_append.1 hm with hm | hm
        · exact hn hm
        · exact e (by simpa using hm)
    · rintro T H ⟨h6, h0, h1, h7, h8, hn⟩
      repeat (first | refine IW.seq ?_ | refine IW.region ?_ | (apply ROps.q0; focus (simp only [go_sem]; rfl)) | (apply ROps.q; focus (simp only [go_sem]; rfl)) | refine ROps.nil ?_ | refine IW.skip ?_ | refine IW.dquiet rfl ?_ | (apply QRun.q; focus (simp only [go_sem]; rfl)) | refine QRun.nil ?_ | (apply ROps.e; focus (simp only [estep, ecore, blkOf_new, modH_some, modH_none, go_sem]; rfl)) | (refine ROps.gt ?_ ?_; focus (simp only [go_sem]; done)) | (refine ROps.gf (v := false) ?_ Bool.false_ne_true ?_; focus (simp only [go_sem]; done)) | (refine ROps.gf (v := true) ?_ (fun h => Bool.false_ne_true h.symm) ?_; focus (simp only [go_sem]; done)) | (refine ROps.gn ?_ ?_; focus (simp only [go_sem]; done)) | (refine QRun.gt ?_ ?_; focus (simp only [go_sem]; done)) | (refine QRun.gf (v := false) ?_ Bool.false_ne_true ?_; focus (simp only [go_sem]; done)) | (refine QRun.gf (v := true) ?_ (fun h => Bool.false_ne_true h.symm) ?_; focus (simp only [go_sem]; done)) | (refine IW.cond (b := true) ?_ (fun _ => ?_) (fun h => absurd h.symm Bool.false_ne_true); focus (simp only [go_sem]; done)) | (refine IW.cond (b := false) ?_ (fun h => absurd h Bool.false_ne_true) (fun _ => ?_); focus (simp only [go_sem]; done)) | fail)
      refine IW.ret ?_
      rw [List.take_length] at hn
      simp only [Nx, inB, resD, rvD, exists_eq_left', go_sem, if_neg hn]
  · simp only [pureL, pureD, Bool.and_true]
    exact pureR_of fun e he => by
      obtain ⟨x, _, rfl⟩ := List.mem_map.1 he
      rfl
theorem contains_ok (l : List Int) (full : Bool) (v : Int) (hl : l.length ≤ 1048576) : Fn Try.prog 10 [.sl 1 full (l.map iC), I v] (.bool (decide (v ∈ l))) := by
  refine Fn.of_pure ?_ ?_ rfl
  · refine AC.body cc10 (by simp [ic10]) ?_
    simp only [ic10]
    repeat (first | refine IW.seq ?_ | refine IW.region ?_ | (apply ROps.q0; focus (simp only [go_sem]; rfl)) | (apply ROps.q; focus (simp only [go_sem]; rfl)) | refine ROps.nil ?_ | refine IW.skip ?_ | refine IW.dquiet rfl ?_ | (apply QRun.q; focus (simp only [go_sem]; rfl)) | refine QRun.nil ?_ | (apply ROps.e; focus (simp only [estep, ecore, blkOf_new, modH_some, modH_none, go_sem]; rfl)) | (refine ROps.gt ?_ ?_; focus (simp only [go_sem]; done)) | (refine ROps.gf (v := false) ?_ Bool.false_ne_true ?_; focus (simp only [go_sem]; done)) | (refine ROps.gf (v := true) ?_ (fun h => Bool.false_ne_true h.symm) ?_; focus (simp only [go_sem]; done)) | (refine ROps.gn ?_ ?_; focus (simp only [go_sem]; done)) | (refine QRun.gt ?_ ?_; focus (simp only [go_sem]; done)) | (refine QRun.gf (v := false) ?_ Bool.false_ne_true ?_; focus (simp only [go_sem]; done)) | (refine QRun.gf (v := true) ?_ (fun h => Bool.false_ne_true h.symm) ?_; focus (simp only [go_sem]; done)) | (refine IW.cond (b := true) ?_ (fun _ => ?_) (fun h => absurd h.symm Bool.false_ne_true); focus (simp only [go_sem]; done)) | (refine IW.cond (b := false) ?_ (fun h => absurd h Bool.false_ne_true) (fun _ => ?_); focus (simp only [go_sem]; done)) | fail)
    refine ROps.f (by simp only [callD, go_sem]) (index_ok l full v hl) ?_
    repeat (first | refine IW.seq ?_ | refine IW.region ?_ | (apply ROps.q0; focus (simp only [go_sem]; rfl)) | (apply ROps.q; focus (simp only [go_sem]; rfl)) | refine ROps.nil ?_ | refine IW.skip ?_ | refine IW.dquiet rfl ?_ | (apply QRun.q; focus (simp only [go_sem]; rfl)) | refine QRun.nil ?_ | (apply ROps.e; focus (simp only [estep, ecore, blkOf_new, modH_some, modH_none, go_sem]; rfl)) | (refine ROps.gt ?_ ?_; focus (simp only [go_sem]; done)) | (refine ROps.gf (v := false) ?_ Bool.false_ne_true ?_; focus (simp only [go_sem]; done)) | (refine ROps.gf (v := true) ?_ (fun h => Bool.false_ne_true h.symm) ?_; focus (simp only [go_sem]; done)) | (refine ROps.gn ?_ ?_; focus (simp only [go_sem]; done)) | (refine QRun.gt ?_ ?_; focus (simp only [go_sem]; done)) | (refine QRun.gf (v := false) ?_ Bool.false_ne_true ?_; focus (simp only [go_sem]; done)) | (refine QRun.gf (v := true) ?_ (fun h => Bool.false_ne_true h.symm) ?_; focus (simp only [go_sem]; done)) | (refine IW.cond (b := true) ?_ (fun _ => ?_) (fun h => absurd h.symm Bool.false_ne_true); focus (simp only [go_sem]; done)) | (refine IW.cond (b := false) ?_ (fun h => absurd h Bool.false_ne_true) (fun _ => ?_); focus (simp only [go_sem]; done)) | fail)
    refine IW.ret ?_
    simp only [Nx, inB, resD, rvD, exists_eq_left', go_sem]
    congr 1
    by_cases h : v ∈ l
    · rw [if_pos h]; simp [h]
    · rw [if_neg h]; simp [h]
  · simp only [pureL, pureD, Bool.and_true]
    exact pureR_of fun e he => by
      obtain ⟨x, _, rfl⟩ := List.mem_map.1 he
      rfl
end Go.Proofs.Ytlagfebklcaaeaa

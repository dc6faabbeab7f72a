/- trace.Open opens packed runs. -/
import Derived.Test.YtlagfebklcaaeaaTpCnt
namespace Go.Proofs.Ytlagfebklcaaeaa
set_option linter.all false
def runZ (r : Bus × Int) : List D := [I r.1.what, I r.1.addr, I r.1.data, I r.2]
/-- The fault of packed runs, n cycles having been before. -/
def openE : Int → List (Bus × Int) → Int
  | _, [] => 0
  | n, r :: l => if r.2 < 1 then 1 else if r.2 > 100000 ∨ n + r.2 > 100000 then 2 else openE (n + r.2) l
def openL (l : List (Bus × Int)) : List Bus := l.flatMap fun r => List.replicate r.2.toNat r.1
def openR (l : List (Bus × Int)) : D := .tup [.sl 3 false ((if openE 0 l = 0 then openL l else []).map busC), I (openE 0 l)]
def tots (l : List (Bus × Int)) : Int := (l.map (·.2)).sum
theorem tots_succ {l : List (Bus × Int)} {i : Nat} (hi : i < l.length) : tots (l.take (i + 1)) = tots (l.take i) + l[i].2 := by
  rw [List.take_add_one, List.getElem?_eq_getElem hi, tots, List.map_append, List.sum_append, tots]
  simp
theorem open_lend {H : Heap} {l : List (Bus × Int)} {e : Int} (h : openE 0 l = e) (he : e ≠ 0) : Lend H (.tup [.sl 0 true [], I e]) (openR l) := by
  rw [openR, h, if_neg he]
  exact .tup (.cons (.slw rfl (.inl rfl) (fun h => by cases h)) (.cons (.pure rfl) .nil))
theorem openE_split {n : Int} {l : List (Bus × Int)} {i : Nat} (hi : i < l.length) : openE n (l.drop i) = if l[i].2 < 1 then 1 else if l[i].2 > 100000 ∨ n + l[i].2 > 100000 then 2 else openE (n + l[i].2) (l.drop (i + 1)) := by
  rw [List.drop_eq_getElem_cons hi]; rfl
theorem openL_succ {l : List (Bus × Int)} {i : Nat} (hi : i < l.length) : openL (l.take (i + 1)) = openL (l.take i) ++ List.replicate l[i].2.toNat l[i].1 := by
  rw [List.take_add_one, List.getElem?_eq_getElem hi, openL, List.flatMap_append]
  simp [openL]
theorem openL_len (l : List (Bus × Int)) (h : ∀ r ∈ l, 0 ≤ r.2) : ((openL l).length : Int) = tots l := by
  induction l with
  | nil => rfl
  | cons r l ih =>
    have h1 := ih fun r hr => h r (by simp [hr])
    have h2 := h r (by simp)
    simp only [openL, tots, List.flatMap_cons, List.length_append, List.length_replicate, List.map_cons, List.sum_cons] at h1 ⊢
    omega
theorem openL_part {l : List (Bus × Int)} (h : ∀ r ∈ l, 1 ≤ r.2) (i : Nat) : ((openL (l.take i)).length : Int) ≤ tots l := by
  rw [← openL_len l fun r hr => by have := h r hr; omega]
  have : openL l = openL (l.take i) ++ openL (l.drop i) := by
    rw [openL, openL, openL, ← List.flatMap_append, List.take_append_drop]
  rw [this, List.length_append]
  omega
theorem open_ok (l : List (Bus × Int)) (f : Bool) (hl : l.length ≤ 9223372036854775807) : Fn Try.prog 9 [.sl 4 f (l.map runZ)] (openR l) := by
  refine Fn.of ?_ (by simp [pureL, pureD, pure_map, runZ])
  refine AC.body cc9 (by simp [ic9]) ?_
  simp only [ic9]
  repeat (first | refine IW.seq ?_ | refine IW.region ?_ | (apply ROps.q0; focus (simp only [go_sem]; rfl)) | (apply ROps.q; focus (simp only [go_sem]; rfl)) | refine ROps.nil ?_ | refine IW.skip ?_ | refine IW.dquiet rfl ?_ | (apply QRun.q; focus (simp only [go_sem]; rfl)) | refine QRun.nil ?_ | (apply ROps.e; focus (simp only [estep, ecore, blkOf_new, modH_some, modH_none, go_sem]; rfl)) | (refine ROps.gt ?_ ?_; focus (simp only [go_sem]; done)) | (refine ROps.gf (v := false) ?_ Bool.false_ne_true ?_; focus (simp only [go_sem]; done)) | (refine ROps.gf (v := true) ?_ (fun h => Bool.false_ne_true h.symm) ?_; focus (simp only [go_sem]; done)) | (refine ROps.gn ?_ ?_; focus (simp only [go_sem]; done)) | (refine QRun.gt ?_ ?_; focus (simp only [go_sem]; done)) | (refine QRun.gf (v := false) ?_ Bool.false_ne_true ?_; focus (simp only [go_sem]; done)) | (refine QRun.gf (v := true) ?_ (fun h => Bool.false_ne_true h.symm) ?_; focus (simp only [go_sem]; done)) | (refine IW.cond (b := true) ?_ (fun _ => ?_) (fun h => absurd h.symm Bool.false_ne_true); focus (simp only [go_sem]; done)) | (refine IW.cond (b := false) ?_ (fun h => absurd h Bool.false_ne_true) (fun _ => ?_); focus (simp only [go_sem]; done)) | fail)
  refine IW.range (id := 0) (k := 1) (ti := 12) (tn := 11) (tc := 13) (t1 := 33) l.length (fun i T H => T 0 = .sl 4 f (l.map runZ) ∧ T 10 = .sl 4 f (l.map runZ) ∧ T 11 = I l.length ∧ T 12 = I i ∧ ∃ n, T 4 = I n ∧ 0 ≤ n ∧ n ≤ 100000 ∧ n = tots (l.take i) ∧ (∀ r ∈ l.take i, 1 ≤ r.2) ∧ openE 0 l = openE n (l.drop i)) hl ?_ ?_ ?_ ?_
  · simp [put_at, args0, tots]
  · rintro i T H ⟨h0, h7, h8, h9, _⟩
    exact ⟨h9, h8⟩
  · rintro i T H hi ⟨h0, h10, h11, h12, n, h4, n0, n1, ns, np, hE⟩
    have hc : (l.map runZ)[i]? = some [I l[i].1.what, I l[i].1.addr, I l[i].1.data, I l[i].2] := by simp [runZ, hi]
    rw [openE_split hi] at hE
    have hsum := tots_succ hi
    have hpos : 1 ≤ l[i].2 → ∀ r ∈ l.take (i + 1), 1 ≤ r.2 := fun h1 r hr => by
      rw [List.take_add_one, List.getElem?_eq_getElem hi] at hr
      rcases List.mem_append.1 hr with hr | hr
      · exact np r hr
      · simp at hr; rw [hr]; exact h1
    generalize l[i] = x at *
    by_cases c1 : x.2 < 1
    · repeat (first | refine IW.seq ?_ | refine IW.region ?_ | (apply ROps.q0; focus (simp only [go_sem, h0, h10, h11, h12, h4, iasD_sl hc, c1]; rfl)) | (apply ROps.q; focus (simp only [go_sem, h0, h10, h11, h12, h4, iasD_sl hc, c1]; rfl)) | refine ROps.nil ?_ | refine IW.skip ?_ | refine IW.dquiet rfl ?_ | (apply QRun.q; focus (simp only [go_sem, h0, h10, h11, h12, h4, iasD_sl hc, c1]; rfl)) | refine QRun.nil ?_ | (apply ROps.e; focus (simp only [estep, ecore, blkOf_new, modH_some, modH_none, go_sem, h0, h10, h11, h12, h4, iasD_sl hc, c1]; rfl)) | (refine ROps.gt ?_ ?_; focus (simp only [go_sem, h0, h10, h11, h12, h4, iasD_sl hc, c1]; done)) | (refine ROps.gf (v := false) ?_ Bool.false_ne_true ?_; focus (simp only [go_sem, h0, h10, h11, h12, h4, iasD_sl hc, c1]; done)) | (refine ROps.gf (v := true) ?_ (fun h => Bool.false_ne_true h.symm) ?_; focus (simp only [go_sem, h0, h10, h11, h12, h4, iasD_sl hc, c1]; done)) | (refine ROps.gn ?_ ?_; focus (simp only [go_sem, h0, h10, h11, h12, h4, iasD_sl hc, c1]; done)) | (refine QRun.gt ?_ ?_; focus (simp only [go_sem, h0, h10, h11, h12, h4, iasD_sl hc, c1]; done)) | (refine QRun.gf (v := false) ?_ Bool.false_ne_true ?_; focus (simp only [go_sem, h0, h10, h11, h12, h4, iasD_sl hc, c1]; done)) | (refine QRun.gf (v := true) ?_ (fun h => Bool.false_ne_true h.symm) ?_; focus (simp only [go_sem, h0, h10, h11, h12, h4, iasD_sl hc, c1]; done)) | (refine IW.cond (b := true) ?_ (fun _ => ?_) (fun h => absurd h.symm Bool.false_ne_true); focus (simp only [go_sem, h0, h10, h11, h12, h4, iasD_sl hc, c1]; done)) | (refine IW.cond (b := false) ?_ (fun h => absurd h Bool.false_ne_true) (fun _ => ?_); focus (simp only [go_sem, h0, h10, h11, h12, h4, iasD_sl hc, c1]; done)) | fail)
      refine IW.ret ?_
      simp only [inB]
      exact ⟨_, rfl, open_lend (by rw [hE, if_pos c1]) (by decide)⟩
    · by_cases c2 : 100000 < x.2
      · repeat (first | refine IW.seq ?_ | refine IW.region ?_ | (apply ROps.q0; focus (simp only [go_sem, h0, h10, h11, h12, h4, iasD_sl hc, c1, c2]; rfl)) | (apply ROps.q; focus (simp only [go_sem, h0, h10, h11, h12, h4, iasD_sl hc, c1, c2]; rfl)) | refine ROps.nil ?_ | refine IW.skip ?_ | refine IW.dquiet rfl ?_ | (apply QRun.q; focus (simp only [go_sem, h0, h10, h11, h12, h4, iasD_sl hc, c1, c2]; rfl)) | refine QRun.nil ?_ | (apply ROps.e; focus (simp only [estep, ecore, blkOf_new, modH_some, modH_none, go_sem, h0, h10, h11, h12, h4, iasD_sl hc, c1, c2]; rfl)) | (refine ROps.gt ?_ ?_; focus (simp only [go_sem, h0, h10, h11, h12, h4, iasD_sl hc, c1, c2]; done)) | (refine ROps.gf (v := false) ?_ Bool.false_ne_true ?_; focus (simp only [go_sem, h0, h10, h11, h12, h4, iasD_sl hc, c1, c2]; done)) | (refine ROps.gf (v := true) ?_ (fun h => Bool.false_ne_true h.symm) ?_; focus (simp only [go_sem, h0, h10, h11, h12, h4, iasD_sl hc, c1, c2]; done)) | (refine ROps.gn ?_ ?_; focus (simp only [go_sem, h0, h10, h11, h12, h4, iasD_sl hc, c1, c2]; done)) | (refine QRun.gt ?_ ?_; focus (simp only [go_sem, h0, h10, h11, h12, h4, iasD_sl hc, c1, c2]; done)) | (refine QRun.gf (v := false) ?_ Bool.false_ne_true ?_; focus (simp only [go_sem, h0, h10, h11, h12, h4, iasD_sl hc, c1, c2]; done)) | (refine QRun.gf (v := true) ?_ (fun h => Bool.false_ne_true h.symm) ?_; focus (simp only [go_sem, h0, h10, h11, h12, h4, iasD_sl hc, c1, c2]; done)) | (refine IW.cond (b := true) ?_ (fun _ => ?_) (fun h => absurd h.symm Bool.false_ne_true); focus (simp only [go_sem, h0, h10, h11, h12, h4, iasD_sl hc, c1, c2]; done)) | (refine IW.cond (b := false) ?_ (fun h => absurd h Bool.false_ne_true) (fun _ => ?_); focus (simp only [go_sem, h0, h10, h11, h12, h4, iasD_sl hc, c1, c2]; done)) | fail)
        refine IW.ret ?_
        simp only [inB]
        exact ⟨_, rfl, open_lend (by rw [hE, if_neg c1, if_pos (.inl c2)]) (by decide)⟩
      · have hw : IntKind.i64.wrap (n + x.2) = n + x.2 := w64 (by omega) (by omega)
        by_cases c3 : 100000 < n + x.2
        · repeat (first | refine IW.seq ?_ | refine IW.region ?_ | (apply ROps.q0; focus (simp only [go_sem, h0, h10, h11, h12, h4, iasD_sl hc, c1, c2, c3, hw]; rfl)) | (apply ROps.q; focus (simp only [go_sem, h0, h10, h11, h12, h4, iasD_sl hc, c1, c2, c3, hw]; rfl)) | refine ROps.nil ?_ | refine IW.skip ?_ | refine IW.dquiet rfl ?_ | (apply QRun.q; focus (simp only [go_sem, h0, h10, h11, h12, h4, iasD_sl hc, c1, c2, c3, hw]; rfl)) | refine QRun.nil ?_ | (apply ROps.e; focus (simp only [estep, ecore, blkOf_new, modH_some, modH_none, go_sem, h0, h10, h11, h12, h4, iasD_sl hc, c1, c2, c3, hw]; rfl)) | (refine ROps.gt ?_ ?_; focus (simp only [go_sem, h0, h10, h11, h12, h4, iasD_sl hc, c1, c2, c3, hw]; done)) | (refine ROps.gf (v := false) ?_ Bool.false_ne_true ?_; focus (simp only [go_sem, h0, h10, h11, h12, h4, iasD_sl hc, c1, c2, c3, hw]; done)) | (refine ROps.gf (v := true) ?_ (fun h => Bool.false_ne_true h.symm) ?_; focus (simp only [go_sem, h0, h10, h11, h12, h4, iasD_sl hc, c1, c2, c3, hw]; done)) | (refine ROps.gn ?_ ?_; focus (simp only [go_sem, h0, h10, h11, h12, h4, iasD_sl hc, c1, c2, c3, hw]; done)) | (refine QRun.gt ?_ ?_; focus (simp only [go_sem, h0, h10, h11, h12, h4, iasD_sl hc, c1, c2, c3, hw]; done)) | (refine QRun.gf (v := false) ?_ Bool.false_ne_true ?_; focus (simp only [go_sem, h0, h10, h11, h12, h4, iasD_sl hc, c1, c2, c3, hw]; done)) | (refine QRun.gf (v := true) ?_ (fun h => Bool.false_ne_true h.symm) ?_; focus (simp only [go_sem, h0, h10, h11, h12, h4, iasD_sl hc, c1, c2, c3, hw]; done)) | (refine IW.cond (b := true) ?_ (fun _ => ?_) (fun h => absurd h.symm Bool.false_ne_true); focus (simp only [go_sem, h0, h10, h11, h12, h4, iasD_sl hc, c1, c2, c3, hw]; done)) | (refine IW.cond (b := false) ?_ (fun h => absurd h Bool.false_ne_true) (fun _ => ?_); focus (simp only [go_sem, h0, h10, h11, h12, h4, iasD_sl hc, c1, c2, c3, hw]; done)) | fail)
          refine IW.ret ?_
          simp only [inB]
          exact ⟨_, rfl, open_lend (by rw [hE, if_neg c1, if_pos (.inr c3)]) (by decide)⟩
        · repeat (first | refine IW.seq ?_ | refine IW.region ?_ | (apply ROps.q0; focus (simp only [go_sem, h0, h10, h11, h12, h4, iasD_sl hc, c1, c2, c3, hw]; rfl)) | (apply ROps.q; focus (simp only [go_sem, h0, h10, h11, h12, h4, iasD_sl hc, c1, c2, c3, hw]; rfl)) | refine ROps.nil ?_ | refine IW.skip ?_ | refine IW.dquiet rfl ?_ | (apply QRun.q; focus (simp only [go_sem, h0, h10, h11, h12, h4, iasD_sl hc, c1, c2, c3, hw]; rfl)) | refine QRun.nil ?_ | (apply ROps.e; focus (simp only [estep, ecore, blkOf_new, modH_some, modH_none, go_sem, h0, h10, h11, h12, h4, iasD_sl hc, c1, c2, c3, hw]; rfl)) | (refine ROps.gt ?_ ?_; focus (simp only [go_sem, h0, h10, h11, h12, h4, iasD_sl hc, c1, c2, c3, hw]; done)) | (refine ROps.gf (v := false) ?_ Bool.false_ne_true ?_; focus (simp only [go_sem, h0, h10, h11, h12, h4, iasD_sl hc, c1, c2, c3, hw]; done)) | (refine ROps.gf (v := true) ?_ (fun h => Bool.false_ne_true h.symm) ?_; focus (simp only [go_sem, h0, h10, h11, h12, h4, iasD_sl hc, c1, c2, c3, hw]; done)) | (refine ROps.gn ?_ ?_; focus (simp only [go_sem, h0, h10, h11, h12, h4, iasD_sl hc, c1, c2, c3, hw]; done)) | (refine QRun.gt ?_ ?_; focus (simp only [go_sem, h0, h10, h11, h12, h4, iasD_sl hc, c1, c2, c3, hw]; done)) | (refine QRun.gf (v := false) ?_ Bool.false_ne_true ?_; focus (simp only [go_sem, h0, h10, h11, h12, h4, iasD_sl hc, c1, c2, c3, hw]; done)) | (refine QRun.gf (v := true) ?_ (fun h => Bool.false_ne_true h.symm) ?_; focus (simp only [go_sem, h0, h10, h11, h12, h4, iasD_sl hc, c1, c2, c3, hw]; done)) | (refine IW.cond (b := true) ?_ (fun _ => ?_) (fun h => absurd h.symm Bool.false_ne_true); focus (simp only [go_sem, h0, h10, h11, h12, h4, iasD_sl hc, c1, c2, c3, hw]; done)) | (refine IW.cond (b := false) ?_ (fun h => absurd h Bool.false_ne_true) (fun _ => ?_); focus (simp only [go_sem, h0, h10, h11, h12, h4, iasD_sl hc, c1, c2, c3, hw]; done)) | fail)
          simp only [Nx, inB, resD, rvD, exists_eq_left', go_sem, h0, h10, h11, h12, h4]
          rw [if_neg c1, if_neg (by omega)] at hE
          exact ⟨n + x.2, rfl, by omega, by omega, by rw [hsum, ns], hpos (by omega), hE⟩
  · rintro T H ⟨h0, h10, h11, h12, n, h4, n0, n1, ns, np, hE⟩
    rw [List.take_length] at np ns
    rw [List.drop_length] at hE
    have hE0 : openE 0 l = 0 := hE
    repeat (first | refine IW.seq ?_ | refine IW.region ?_ | (apply ROps.q0; focus (simp only [go_sem, h0]; rfl)) | (apply ROps.q; focus (simp only [go_sem, h0]; rfl)) | refine ROps.nil ?_ | refine IW.skip ?_ | refine IW.dquiet rfl ?_ | (apply QRun.q; focus (simp only [go_sem, h0]; rfl)) | refine QRun.nil ?_ | (apply ROps.e; focus (simp only [estep, ecore, blkOf_new, modH_some, modH_none, go_sem, h0]; rfl)) | (refine ROps.gt ?_ ?_; focus (simp only [go_sem, h0]; done)) | (refine ROps.gf (v := false) ?_ Bool.false_ne_true ?_; focus (simp only [go_sem, h0]; done)) | (refine ROps.gf (v := true) ?_ (fun h => Bool.false_ne_true h.symm) ?_; focus (simp only [go_sem, h0]; done)) | (refine ROps.gn ?_ ?_; focus (simp only [go_sem, h0]; done)) | (refine QRun.gt ?_ ?_; focus (simp only [go_sem, h0]; done)) | (refine QRun.gf (v := false) ?_ Bool.false_ne_true ?_; focus (simp only [go_sem, h0]; done)) | (refine QRun.gf (v := true) ?_ (fun h => Bool.false_ne_true h.symm) ?_; focus (simp only [go_sem, h0]; done)) | (refine IW.cond (b := true) ?_ (fun _ => ?_) (fun h => absurd h.symm Bool.false_ne_true); focus (simp only [go_sem, h0]; done)) | (refine IW.cond (b := false) ?_ (fun h => absurd h Bool.false_ne_true) (fun _ => ?_); focus (simp only [go_sem, h0]; done)) | fail)
    refine IW.own 7 26 3 (z := 0) (by simp only [go_sem]) ?_
    refine IW.range (id := 2) (k := 3) (ti := 36) (tn := 35) (tc := 37) (t1 := 50) l.length (fun i T H => T 34 = .sl 4 f (l.map runZ) ∧ T 35 = I l.length ∧ T 36 = I i ∧ ∃ b g, T 7 = .osl b 0 (openL (l.take i)).length g ∧ blkOf H b = some ⟨26, 3, (openL (l.take i)).map busC, 0⟩) hl ?_ ?_ ?_ ?_
    · refine ⟨by simp only [go_sem], by simp only [go_sem], by simp only [go_sem] <;> rfl, _, true, by simp only [go_sem]; rfl, ?_⟩
      simp only [pushB_none, blkOf_new]
      rfl
    · rintro i T H ⟨h7, h8, h9, _⟩
      exact ⟨h9, h8⟩
    · rintro i T H hi ⟨h34, h35, h36, b, g, h7, hb⟩
      have hc : (l.map runZ)[i]? = some [I l[i].1.what, I l[i].1.addr, I l[i].1.data, I l[i].2] := by simp [runZ, hi]
      have hsucc := openL_succ hi
      have hle := openL_part np (i + 1)
      have hx1 := np l[i] (List.getElem_mem hi)
      have hlt := blkOf_lt hb
      generalize l[i] = x at *
      repeat (first | refine IW.seq ?_ | refine IW.region ?_ | (apply ROps.q0; focus (simp only [go_sem, h34, h35, h36, h7, iasD_sl hc]; rfl)) | (apply ROps.q; focus (simp only [go_sem, h34, h35, h36, h7, iasD_sl hc]; rfl)) | refine ROps.nil ?_ | refine IW.skip ?_ | refine IW.dquiet rfl ?_ | (apply QRun.q; focus (simp only [go_sem, h34, h35, h36, h7, iasD_sl hc]; rfl)) | refine QRun.nil ?_ | (apply ROps.e; focus (simp only [estep, ecore, blkOf_new, modH_some, modH_none, go_sem, h34, h35, h36, h7, iasD_sl hc]; rfl)) | (refine ROps.gt ?_ ?_; focus (simp only [go_sem, h34, h35, h36, h7, iasD_sl hc]; done)) | (refine ROps.gf (v := false) ?_ Bool.false_ne_true ?_; focus (simp only [go_sem, h34, h35, h36, h7, iasD_sl hc]; done)) | (refine ROps.gf (v := true) ?_ (fun h => Bool.false_ne_true h.symm) ?_; focus (simp only [go_sem, h34, h35, h36, h7, iasD_sl hc]; done)) | (refine ROps.gn ?_ ?_; focus (simp only [go_sem, h34, h35, h36, h7, iasD_sl hc]; done)) | (refine QRun.gt ?_ ?_; focus (simp only [go_sem, h34, h35, h36, h7, iasD_sl hc]; done)) | (refine QRun.gf (v := false) ?_ Bool.false_ne_true ?_; focus (simp only [go_sem, h34, h35, h36, h7, iasD_sl hc]; done)) | (refine QRun.gf (v := true) ?_ (fun h => Bool.false_ne_true h.symm) ?_; focus (simp only [go_sem, h34, h35, h36, h7, iasD_sl hc]; done)) | (refine IW.cond (b := true) ?_ (fun _ => ?_) (fun h => absurd h.symm Bool.false_ne_true); focus (simp only [go_sem, h34, h35, h36, h7, iasD_sl hc]; done)) | (refine IW.cond (b := false) ?_ (fun h => absurd h Bool.false_ne_true) (fun _ => ?_); focus (simp only [go_sem, h34, h35, h36, h7, iasD_sl hc]; done)) | fail)
      refine IW.range (id := 4) (k := 5) (ti := 42) (tn := 41) (tc := 43) (t1 := 49) x.2.toNat (fun k T H1 => T 34 = .sl 4 f (l.map runZ) ∧ T 35 = I l.length ∧ T 36 = I i ∧ T 41 = I x.2 ∧ T 42 = I k ∧ T 9 = .ptr H.length 0 0 ∧ blkOf H1 H.length = some ⟨28, 4, [[I x.1.what, I x.1.addr, I x.1.data, I x.2]], 0⟩ ∧
        ∃ b g, b ≠ H.length ∧ T 7 = .osl b 0 (openL (l.take i) ++ List.replicate k x.1).length g ∧ blkOf H1 b = some ⟨26, 3, (openL (l.take i) ++ List.replicate k x.1).map busC, 0⟩) ?_ ?_ ?_ ?_ ?_
      · rw [hsucc] at hle; simp at hle; omega
      · refine ⟨by simp only [go_sem, h34], by simp only [go_sem, h35], by simp only [go_sem, h36], by simp only [go_sem], by simp only [go_sem] <;> rfl, by simp only [go_sem], by simp only [go_sem], b, g, by omega, by simp only [go_sem, h7]; simp, ?_⟩
        rw [blkOf_old hlt, hb]
        simp
      · rintro k T1 H1 ⟨g34, g35, g36, g41, g42, _⟩
        exact ⟨g42, by rw [g41]; congr 1; omega⟩
      · rintro k T1 H1 hk ⟨g34, g35, g36, g41, g42, g9, hq, b1, g1, hne, g7, hb1⟩
        have hl1 := blkOf_lt hb1
        have hq1 := blkOf_lt hq
        have hsz : (openL (l.take i) ++ List.replicate k x.1).length + 1 ≤ 100000 := by
          rw [hsucc] at hle; simp at hle ⊢; omega
        have hrep : openL (l.take i) ++ List.replicate (k + 1) x.1 = openL (l.take i) ++ List.replicate k x.1 ++ [x.1] := by
          rw [List.replicate_succ', List.append_assoc]
        repeat (first | refine IW.seq ?_ | refine IW.region ?_ | (apply ROps.q0; focus (simp only [go_sem, g34, g35, g36, g41, g42, g9, hq, g7]; rfl)) | (apply ROps.q; focus (simp only [go_sem, g34, g35, g36, g41, g42, g9, hq, g7]; rfl)) | refine ROps.nil ?_ | refine IW.skip ?_ | refine IW.dquiet rfl ?_ | (apply QRun.q; focus (simp only [go_sem, g34, g35, g36, g41, g42, g9, hq, g7]; rfl)) | refine QRun.nil ?_ | (apply ROps.e; focus (simp only [estep, ecore, blkOf_new, modH_some, modH_none, go_sem, g34, g35, g36, g41, g42, g9, hq, g7]; rfl)) | (refine ROps.gt ?_ ?_; focus (simp only [go_sem, g34, g35, g36, g41, g42, g9, hq, g7]; done)) | (refine ROps.gf (v := false) ?_ Bool.false_ne_true ?_; focus (simp only [go_sem, g34, g35, g36, g41, g42, g9, hq, g7]; done)) | (refine ROps.gf (v := true) ?_ (fun h => Bool.false_ne_true h.symm) ?_; focus (simp only [go_sem, g34, g35, g36, g41, g42, g9, hq, g7]; done)) | (refine ROps.gn ?_ ?_; focus (simp only [go_sem, g34, g35, g36, g41, g42, g9, hq, g7]; done)) | (refine QRun.gt ?_ ?_; focus (simp only [go_sem, g34, g35, g36, g41, g42, g9, hq, g7]; done)) | (refine QRun.gf (v := false) ?_ Bool.false_ne_true ?_; focus (simp only [go_sem, g34, g35, g36, g41, g42, g9, hq, g7]; done)) | (refine QRun.gf (v := true) ?_ (fun h => Bool.false_ne_true h.symm) ?_; focus (simp only [go_sem, g34, g35, g36, g41, g42, g9, hq, g7]; done)) | (refine IW.cond (b := true) ?_ (fun _ => ?_) (fun h => absurd h.symm Bool.false_ne_true); focus (simp only [go_sem, g34, g35, g36, g41, g42, g9, hq, g7]; done)) | (refine IW.cond (b := false) ?_ (fun h => absurd h Bool.false_ne_true) (fun _ => ?_); focus (simp only [go_sem, g34, g35, g36, g41, g42, g9, hq, g7]; done)) | fail)
        simp only [pushB_none, pushB_some]
        refine ROps.e (estep_app (b := b1) (n := (openL (l.take i) ++ List.replicate k x.1).length) (f := g1) (by simp only [go_sem]) ((blkOf_old hl1).trans hb1) (by simp) (news := [[I x.1.what, I x.1.addr, I x.1.data]]) (by simp only [go_sem]; exact newsD_all (blkOf_new _ _) rfl) (by simp at hsz ⊢; omega) (by simp at hsz ⊢; omega)) ?_
        repeat (first | refine IW.seq ?_ | refine IW.region ?_ | (apply ROps.q0; focus (simp only [go_sem]; rfl)) | (apply ROps.q; focus (simp only [go_sem]; rfl)) | refine ROps.nil ?_ | refine IW.skip ?_ | refine IW.dquiet rfl ?_ | (apply QRun.q; focus (simp only [go_sem]; rfl)) | refine QRun.nil ?_ | (apply ROps.e; focus (simp only [estep, ecore, blkOf_new, modH_some, modH_none, go_sem]; rfl)) | (refine ROps.gt ?_ ?_; focus (simp only [go_sem]; done)) | (refine ROps.gf (v := false) ?_ Bool.false_ne_true ?_; focus (simp only [go_sem]; done)) | (refine ROps.gf (v := true) ?_ (fun h => Bool.false_ne_true h.symm) ?_; focus (simp only [go_sem]; done)) | (refine ROps.gn ?_ ?_; focus (simp only [go_sem]; done)) | (refine QRun.gt ?_ ?_; focus (simp only [go_sem]; done)) | (refine QRun.gf (v := false) ?_ Bool.false_ne_true ?_; focus (simp only [go_sem]; done)) | (refine QRun.gf (v := true) ?_ (fun h => Bool.false_ne_true h.symm) ?_; focus (simp only [go_sem]; done)) | (refine IW.cond (b := true) ?_ (fun _ => ?_) (fun h => absurd h.symm Bool.false_ne_true); focus (simp only [go_sem]; done)) | (refine IW.cond (b := false) ?_ (fun h => absurd h Bool.false_ne_true) (fun _ => ?_); focus (simp only [go_sem]; done)) | fail)
        refine ⟨by simp only [go_sem, g42], by simp only [go_sem, g34], by simp only [go_sem, g35], by simp only [go_sem, g36], by simp only [go_sem, g41], by simp only [go_sem], by simp only [go_sem, g9], ?_, ?_⟩
        · rw [blkOf_app_old (by simp; omega) hne, blkOf_old hq1, hq]
        · rw [hrep]
          refine ⟨(H1 ++ [some (⟨26, 3, [[I x.1.what, I x.1.addr, I x.1.data]], 0⟩ : Blk)]).length, false, by simp; omega, by simp only [go_sem]; simp; omega, ?_⟩
          rw [blkOf_app_new]
          simp [busC]
      · rintro T1 H1 ⟨g34, g35, g36, g41, g42, g9, hq, b1, g1, hne, g7, hb1⟩
        simp only [Nx, inB, resD, rvD, exists_eq_left', go_sem, g34, g35, g36]
        refine ⟨b1, g1, ?_, ?_⟩
        · rw [hsucc]; exact g7
        · rw [hsucc]; exact hb1
    · rintro T H ⟨h7, h8, h9, b, g, h3, hb⟩
      rw [List.take_length] at h3 hb
      repeat (first | refine IW.seq ?_ | refine IW.region ?_ | (apply ROps.q0; focus (simp only [go_sem, h3]; rfl)) | (apply ROps.q; focus (simp only [go_sem, h3]; rfl)) | refine ROps.nil ?_ | refine IW.skip ?_ | refine IW.dquiet rfl ?_ | (apply QRun.q; focus (simp only [go_sem, h3]; rfl)) | refine QRun.nil ?_ | (apply ROps.e; focus (simp only [estep, ecore, blkOf_new, modH_some, modH_none, go_sem, h3]; rfl)) | (refine ROps.gt ?_ ?_; focus (simp only [go_sem, h3]; done)) | (refine ROps.gf (v := false) ?_ Bool.false_ne_true ?_; focus (simp only [go_sem, h3]; done)) | (refine ROps.gf (v := true) ?_ (fun h => Bool.false_ne_true h.symm) ?_; focus (simp only [go_sem, h3]; done)) | (refine ROps.gn ?_ ?_; focus (simp only [go_sem, h3]; done)) | (refine QRun.gt ?_ ?_; focus (simp only [go_sem, h3]; done)) | (refine QRun.gf (v := false) ?_ Bool.false_ne_true ?_; focus (simp only [go_sem, h3]; done)) | (refine QRun.gf (v := true) ?_ (fun h => Bool.false_ne_true h.symm) ?_; focus (simp only [go_sem, h3]; done)) | (refine IW.cond (b := true) ?_ (fun _ => ?_) (fun h => absurd h.symm Bool.false_ne_true); focus (simp only [go_sem, h3]; done)) | (refine IW.cond (b := false) ?_ (fun h => absurd h Bool.false_ne_true) (fun _ => ?_); focus (simp only [go_sem, h3]; done)) | fail)
      refine IW.ret ?_
      refine ⟨_, by simp only [resD, rvD, go_sem]; rfl, ?_⟩
      rw [openR, hE0, if_pos rfl]
      refine .tup (.cons ?_ (.cons (.pure rfl) .nil))
      exact .own hb (by simp) (pure_map (fun _ => rfl) _)
end Go.Proofs.Ytlagfebklcaaeaa

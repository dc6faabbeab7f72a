/- slices.Equal tells whether two lists are the same. -/
import Derived.Test.YtlagfebklcaaeaaTpPack
import Derived.Test.YtlagfebklcaaeaaTpSl
namespace Go.Proofs.Ytlagfebklcaaeaa
set_option linter.all false
theorem pure_map {α : Type} {f : α → List D} (h : ∀ x, pureL (f x) = true) (l : List α) : pureR (l.map f) = true := pureR_of fun e he => by
  obtain ⟨x, _, rfl⟩ := List.mem_map.1 he
  exact h x
theorem take_eq_succ {α : Type} {l m : List α} {i : Nat} (hl : i < l.length) (hm : i < m.length) (h : l.take i = m.take i) (e : l[i] = m[i]) : l.take (i + 1) = m.take (i + 1) := by
  rw [List.take_add_one, List.take_add_one, h, List.getElem?_eq_getElem hl, List.getElem?_eq_getElem hm, e]
theorem cast_ne {a b : Nat} : ((a : Int) != (b : Int)) = decide (a ≠ b) := by
  rw [Bool.eq_iff_iff]; simp; omega
theorem bus_ne (a b : Bus) : (a.what == b.what && (a.addr == b.addr && a.data == b.data)) = decide (a = b) := by
  obtain ⟨a1, a2, a3⟩ := a
  obtain ⟨b1, b2, b3⟩ := b
  rw [Bool.eq_iff_iff]
  simp
theorem bus_ext {a b : Bus} (h1 : a.what = b.what) (h2 : a.addr = b.addr) (h3 : a.data = b.data) : a = b := by
  obtain ⟨a1, a2, a3⟩ := a
  obtain ⟨b1, b2, b3⟩ := b
  simp_all
theorem equalBus_ok (l m : List Bus) (f g : Bool) (hl : l.length ≤ 9223372036854775807) : Fn Try.prog 15 [.sl 3 f (l.map busC), .sl 3 g (m.map busC)] (.bool (decide (l = m))) := by
  refine Fn.of_pure ?_ (by simp [pureL, pureD, pure_map, busC]) rfl
  refine AC.body cc15 (by simp [ic15]) ?_
  simp only [ic15]
  repeat' (first | refine IW.seq ?_ | refine IW.blockS ?_ | refine IW.blockC ?_ | refine IW.blockB ?_ | refine IW.blockR ?_ | refine IW.region ?_ | refine ROps.nil ?_ | refine IW.skip ?_ | (apply ROps.s; focus (simp (maxDischargeDepth := 9) only [go_sem]; rfl)) | (apply ROps.g; focus (simp (maxDischargeDepth := 9) only [go_sem]; rfl)) | refine IW.dquiet rfl ?_ | (apply QRun.q; focus (simp (maxDischargeDepth := 9) only [go_sem]; rfl)) | (apply QRun.g; (focus (simp (maxDischargeDepth := 9) only [go_sem]; rfl)); (focus (simp (maxDischargeDepth := 9) only [go_sem]; rfl))) | refine QRun.nil ?_ | (apply IW.condB; focus (simp (maxDischargeDepth := 9) only [go_sem]; rfl)) | (refine IW.ret ?_; simp only [go_sem]) | (refine IW.exit ?_; simp only [go_sem]) | (apply NxF.mk; (focus (simp only [go_sem]; rfl)); (focus (simp only [go_sem]; done)); (try simp only [go_sem])) | (apply CtF.mk; (focus (simp only [go_sem]; rfl)); (try simp only [go_sem])) | (apply LpF.mk; (focus (simp only [go_sem]; rfl)); (try simp only [go_sem])) | (intro (hc : (_ : Bool) = _); first | (cases hc; done) | cases hc | (replace hc := of_decide_eq_true hc; try simp only [Classical.not_not] at hc; first | contradiction | (exfalso; omega) | skip) | (replace hc := of_decide_eq_false hc; try simp only [Classical.not_not] at hc; first | contradiction | (exfalso; omega) | skip) | skip))
  · rw [decide_eq_false]
    rintro rfl; exact hc rfl
  · refine IW.rangeF [(5, 6), (13, 26)] l.length (fun i T H => l.take i = m.take i) hl rfl ?_ ?_ ?_ ?_ ?_
    · simp only [Nx, inB, resD, rvD, exists_eq_left', go_sem]
    · simp only [Nx, inB, resD, rvD, exists_eq_left', go_sem]
    · rfl
    · intro i T H hi h13 hn
      have hi2 : i < m.length := by omega
      have hx : (l.map busC)[i]? = some (busC l[i]) := by simp [hi]
      have hy : (m.map busC)[i]? = some (busC m[i]) := by simp [hi2]
      repeat' (first | refine IW.seq ?_ | refine IW.blockS ?_ | refine IW.blockC ?_ | refine IW.blockB ?_ | refine IW.blockR ?_ | refine IW.region ?_ | refine ROps.nil ?_ | refine IW.skip ?_ | (apply ROps.s; focus (simp (maxDischargeDepth := 9) only [go_sem, h13, iasD_sl hx, iasD_sl hy, busC]; rfl)) | (apply ROps.g; focus (simp (maxDischargeDepth := 9) only [go_sem, h13, iasD_sl hx, iasD_sl hy, busC]; rfl)) | refine IW.dquiet rfl ?_ | (apply QRun.q; focus (simp (maxDischargeDepth := 9) only [go_sem, h13, iasD_sl hx, iasD_sl hy, busC]; rfl)) | (apply QRun.g; (focus (simp (maxDischargeDepth := 9) only [go_sem, h13, iasD_sl hx, iasD_sl hy, busC]; rfl)); (focus (simp (maxDischargeDepth := 9) only [go_sem, h13, iasD_sl hx, iasD_sl hy, busC]; rfl))) | refine QRun.nil ?_ | (apply IW.condB; focus (simp (maxDischargeDepth := 9) only [go_sem, h13, iasD_sl hx, iasD_sl hy, busC]; rfl)) | (refine IW.ret ?_; simp only [go_sem, h13, iasD_sl hx, iasD_sl hy, busC]) | (refine IW.exit ?_; simp only [go_sem, h13, iasD_sl hx, iasD_sl hy, busC]) | (apply NxF.mk; (focus (simp only [go_sem]; rfl)); (focus (simp only [go_sem, h13, iasD_sl hx, iasD_sl hy, busC]; done)); (try simp only [go_sem, h13, iasD_sl hx, iasD_sl hy, busC])) | (apply CtF.mk; (focus (simp only [go_sem]; rfl)); (try simp only [go_sem, h13, iasD_sl hx, iasD_sl hy, busC])) | (apply LpF.mk; (focus (simp only [go_sem]; rfl)); (try simp only [go_sem, h13, iasD_sl hx, iasD_sl hy, busC])) | (intro (hc : (_ : Bool) = _); first | (cases hc; done) | cases hc | (replace hc := of_decide_eq_true hc; try simp only [Classical.not_not] at hc; first | contradiction | (exfalso; omega) | skip) | (replace hc := of_decide_eq_false hc; try simp only [Classical.not_not] at hc; first | contradiction | (exfalso; omega) | skip) | skip))
      · rw [decide_eq_false]
        rintro rfl; exact hc (⟨rfl, rfl, rfl⟩)
      · exact take_eq_succ hi hi2 hn (bus_ext hc.1 hc.2.1 hc.2.2)
    · intro T H h13 hn
      rw [List.take_length, hc, List.take_length] at hn
      repeat' (first | refine IW.seq ?_ | refine IW.blockS ?_ | refine IW.blockC ?_ | refine IW.blockB ?_ | refine IW.blockR ?_ | refine IW.region ?_ | refine ROps.nil ?_ | refine IW.skip ?_ | (apply ROps.s; focus (simp (maxDischargeDepth := 9) only [go_sem]; rfl)) | (apply ROps.g; focus (simp (maxDischargeDepth := 9) only [go_sem]; rfl)) | refine IW.dquiet rfl ?_ | (apply QRun.q; focus (simp (maxDischargeDepth := 9) only [go_sem]; rfl)) | (apply QRun.g; (focus (simp (maxDischargeDepth := 9) only [go_sem]; rfl)); (focus (simp (maxDischargeDepth := 9) only [go_sem]; rfl))) | refine QRun.nil ?_ | (apply IW.condB; focus (simp (maxDischargeDepth := 9) only [go_sem]; rfl)) | (refine IW.ret ?_; simp only [go_sem]) | (refine IW.exit ?_; simp only [go_sem]) | (apply NxF.mk; (focus (simp only [go_sem]; rfl)); (focus (simp only [go_sem]; done)); (try simp only [go_sem])) | (apply CtF.mk; (focus (simp only [go_sem]; rfl)); (try simp only [go_sem])) | (apply LpF.mk; (focus (simp only [go_sem]; rfl)); (try simp only [go_sem])) | (intro (hc : (_ : Bool) = _); first | (cases hc; done) | cases hc | (replace hc := of_decide_eq_true hc; try simp only [Classical.not_not] at hc; first | contradiction | (exfalso; omega) | skip) | (replace hc := of_decide_eq_false hc; try simp only [Classical.not_not] at hc; first | contradiction | (exfalso; omega) | skip) | skip))
      simp [hn]
theorem equalInt_ok (l m : List Int) (f g : Bool) (hl : l.length ≤ 9223372036854775807) : Fn Try.prog 16 [.sl 1 f (l.map iC), .sl 1 g (m.map iC)] (.bool (decide (l = m))) := by
  refine Fn.of_pure ?_ (by simp [pureL, pureD, pure_map, iC]) rfl
  refine AC.body cc16 (by simp [ic16]) ?_
  simp only [ic16]
  repeat' (first | refine IW.seq ?_ | refine IW.blockS ?_ | refine IW.blockC ?_ | refine IW.blockB ?_ | refine IW.blockR ?_ | refine IW.region ?_ | refine ROps.nil ?_ | refine IW.skip ?_ | (apply ROps.s; focus (simp (maxDischargeDepth := 9) only [go_sem]; rfl)) | (apply ROps.g; focus (simp (maxDischargeDepth := 9) only [go_sem]; rfl)) | refine IW.dquiet rfl ?_ | (apply QRun.q; focus (simp (maxDischargeDepth := 9) only [go_sem]; rfl)) | (apply QRun.g; (focus (simp (maxDischargeDepth := 9) only [go_sem]; rfl)); (focus (simp (maxDischargeDepth := 9) only [go_sem]; rfl))) | refine QRun.nil ?_ | (apply IW.condB; focus (simp (maxDischargeDepth := 9) only [go_sem]; rfl)) | (refine IW.ret ?_; simp only [go_sem]) | (refine IW.exit ?_; simp only [go_sem]) | (apply NxF.mk; (focus (simp only [go_sem]; rfl)); (focus (simp only [go_sem]; done)); (try simp only [go_sem])) | (apply CtF.mk; (focus (simp only [go_sem]; rfl)); (try simp only [go_sem])) | (apply LpF.mk; (focus (simp only [go_sem]; rfl)); (try simp only [go_sem])) | (intro (hc : (_ : Bool) = _); first | (cases hc; done) | cases hc | (replace hc := of_decide_eq_true hc; try simp only [Classical.not_not] at hc; first | contradiction | (exfalso; omega) | skip) | (replace hc := of_decide_eq_false hc; try simp only [Classical.not_not] at hc; first | contradiction | (exfalso; omega) | skip) | skip))
  · rw [decide_eq_false]
    rintro rfl; exact hc rfl
  · refine IW.rangeF [(5, 6), (13, 26)] l.length (fun i T H => l.take i = m.take i) hl rfl ?_ ?_ ?_ ?_ ?_
    · simp only [Nx, inB, resD, rvD, exists_eq_left', go_sem]
    · simp only [Nx, inB, resD, rvD, exists_eq_left', go_sem]
    · rfl
    · intro i T H hi h13 hn
      have hi2 : i < m.length := by omega
      have hx : (l.map iC)[i]? = some (iC l[i]) := by simp [hi]
      have hy : (m.map iC)[i]? = some (iC m[i]) := by simp [hi2]
      repeat' (first | refine IW.seq ?_ | refine IW.blockS ?_ | refine IW.blockC ?_ | refine IW.blockB ?_ | refine IW.blockR ?_ | refine IW.region ?_ | refine ROps.nil ?_ | refine IW.skip ?_ | (apply ROps.s; focus (simp (maxDischargeDepth := 9) only [go_sem, h13, iasD_sl hx, iasD_sl hy, iC]; rfl)) | (apply ROps.g; focus (simp (maxDischargeDepth := 9) only [go_sem, h13, iasD_sl hx, iasD_sl hy, iC]; rfl)) | refine IW.dquiet rfl ?_ | (apply QRun.q; focus (simp (maxDischargeDepth := 9) only [go_sem, h13, iasD_sl hx, iasD_sl hy, iC]; rfl)) | (apply QRun.g; (focus (simp (maxDischargeDepth := 9) only [go_sem, h13, iasD_sl hx, iasD_sl hy, iC]; rfl)); (focus (simp (maxDischargeDepth := 9) only [go_sem, h13, iasD_sl hx, iasD_sl hy, iC]; rfl))) | refine QRun.nil ?_ | (apply IW.condB; focus (simp (maxDischargeDepth := 9) only [go_sem, h13, iasD_sl hx, iasD_sl hy, iC]; rfl)) | (refine IW.ret ?_; simp only [go_sem, h13, iasD_sl hx, iasD_sl hy, iC]) | (refine IW.exit ?_; simp only [go_sem, h13, iasD_sl hx, iasD_sl hy, iC]) | (apply NxF.mk; (focus (simp only [go_sem]; rfl)); (focus (simp only [go_sem, h13, iasD_sl hx, iasD_sl hy, iC]; done)); (try simp only [go_sem, h13, iasD_sl hx, iasD_sl hy, iC])) | (apply CtF.mk; (focus (simp only [go_sem]; rfl)); (try simp only [go_sem, h13, iasD_sl hx, iasD_sl hy, iC])) | (apply LpF.mk; (focus (simp only [go_sem]; rfl)); (try simp only [go_sem, h13, iasD_sl hx, iasD_sl hy, iC])) | (intro (hc : (_ : Bool) = _); first | (cases hc; done) | cases hc | (replace hc := of_decide_eq_true hc; try simp only [Classical.not_not] at hc; first | contradiction | (exfalso; omega) | skip) | (replace hc := of_decide_eq_false hc; try simp only [Classical.not_not] at hc; first | contradiction | (exfalso; omega) | skip) | skip))
      · rw [decide_eq_false]
        rintro rfl; exact hc (rfl)
      · exact take_eq_succ hi hi2 hn (hc)
    · intro T H h13 hn
      rw [List.take_length, hc, List.take_length] at hn
      repeat' (first | refine IW.seq ?_ | refine IW.blockS ?_ | refine IW.blockC ?_ | refine IW.blockB ?_ | refine IW.blockR ?_ | refine IW.region ?_ | refine ROps.nil ?_ | refine IW.skip ?_ | (apply ROps.s; focus (simp (maxDischargeDepth := 9) only [go_sem]; rfl)) | (apply ROps.g; focus (simp (maxDischargeDepth := 9) only [go_sem]; rfl)) | refine IW.dquiet rfl ?_ | (apply QRun.q; focus (simp (maxDischargeDepth := 9) only [go_sem]; rfl)) | (apply QRun.g; (focus (simp (maxDischargeDepth := 9) only [go_sem]; rfl)); (focus (simp (maxDischargeDepth := 9) only [go_sem]; rfl))) | refine QRun.nil ?_ | (apply IW.condB; focus (simp (maxDischargeDepth := 9) only [go_sem]; rfl)) | (refine IW.ret ?_; simp only [go_sem]) | (refine IW.exit ?_; simp only [go_sem]) | (apply NxF.mk; (focus (simp only [go_sem]; rfl)); (focus (simp only [go_sem]; done)); (try simp only [go_sem])) | (apply CtF.mk; (focus (simp only [go_sem]; rfl)); (try simp only [go_sem])) | (apply LpF.mk; (focus (simp only [go_sem]; rfl)); (try simp only [go_sem])) | (intro (hc : (_ : Bool) = _); first | (cases hc; done) | cases hc | (replace hc := of_decide_eq_true hc; try simp only [Classical.not_not] at hc; first | contradiction | (exfalso; omega) | skip) | (replace hc := of_decide_eq_false hc; try simp only [Classical.not_not] at hc; first | contradiction | (exfalso; omega) | skip) | skip))
      simp [hn]
end Go.Proofs.Ytlagfebklcaaeaa

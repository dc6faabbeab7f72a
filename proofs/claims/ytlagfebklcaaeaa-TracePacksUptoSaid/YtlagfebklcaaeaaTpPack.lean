/- trace.Pack puts equal neighbours together. -/
import Derived.Test.YtlagfebklcaaeaaA24
import Derived.Test.YtlagfebklcaaeaaTpC
namespace Go.Proofs.Ytlagfebklcaaeaa
set_option linter.all false

/-- What happens on the bus. -/
structure Bus where
  what : Int
  addr : Int
  data : Int
  deriving DecidableEq, Inhabited
def busC (b : Bus) : List D := [I b.what, I b.addr, I b.data]
def runC (r : Bus × Nat) : List D := [I r.1.what, I r.1.addr, I r.1.data, I r.2]
/-- One more thing behind a packed trace. -/
def packS (out : List (Bus × Nat)) (b : Bus) : List (Bus × Nat) := match out.getLast? with
  | some r => if r.1 = b then out.dropLast ++ [(r.1, r.2 + 1)] else out ++ [(b, 1)]
  | none => [(b, 1)]
def packL (l : List Bus) : List (Bus × Nat) := l.foldl packS []

theorem packS_snoc (o : List (Bus × Nat)) (r : Bus × Nat) (b : Bus) : packS (o ++ [r]) b = if r.1 = b then o ++ [(r.1, r.2 + 1)] else o ++ [r] ++ [(b, 1)] := by
  simp [packS]
def tot (out : List (Bus × Nat)) : Nat := (out.map (·.2)).sum
theorem packS_tot (out : List (Bus × Nat)) (b : Bus) : tot (packS out b) = tot out + 1 := by
  rcases snoc_cases out with rfl | ⟨o, r, rfl⟩
  · simp [packS, tot]
  · rw [packS_snoc]
    split <;> simp [tot] <;> omega
theorem packS_pos {out : List (Bus × Nat)} {b : Bus} (h : ∀ r ∈ out, 1 ≤ r.2) : ∀ r ∈ packS out b, 1 ≤ r.2 := by
  rcases snoc_cases out with rfl | ⟨o, r, rfl⟩
  · intro r hr
    simp [packS] at hr
    subst hr
    exact Nat.le_refl 1
  · rw [packS_snoc]
    split
    · intro q hq
      rcases List.mem_append.1 hq with hq | hq
      · exact h q (List.mem_append.2 (.inl hq))
      · simp at hq; subst hq; simp
    · intro q hq
      rcases List.mem_append.1 hq with hq | hq
      · exact h q hq
      · simp at hq; subst hq; simp
theorem fold_pack (l : List Bus) : ∀ out, tot (l.foldl packS out) = tot out + l.length ∧ ((∀ r ∈ out, 1 ≤ r.2) → ∀ r ∈ l.foldl packS out, 1 ≤ r.2) := by
  induction l with
  | nil => intro out; exact ⟨rfl, fun h => h⟩
  | cons b l ih =>
    intro out
    obtain ⟨h1, h2⟩ := ih (packS out b)
    refine ⟨by rw [List.foldl_cons, h1, packS_tot, List.length_cons]; omega, fun h => h2 (packS_pos h)⟩
theorem packL_tot (l : List Bus) : tot (packL l) = l.length := by
  show tot (l.foldl packS []) = _
  rw [(fold_pack l []).1]
  simp [tot]
theorem packL_pos (l : List Bus) : ∀ r ∈ packL l, 1 ≤ r.2 := (fold_pack l []).2 (by simp)
theorem le_tot {out : List (Bus × Nat)} {r : Bus × Nat} (h : r ∈ out) : r.2 ≤ tot out := by
  induction out with
  | nil => cases h
  | cons a l ih =>
    rcases List.mem_cons.1 h with rfl | h
    · simp [tot]
    · have := ih h; simp only [tot, List.map_cons, List.sum_cons] at this ⊢; omega
theorem len_tot {out : List (Bus × Nat)} (h : ∀ r ∈ out, 1 ≤ r.2) : out.length ≤ tot out := by
  induction out with
  | nil => exact Nat.zero_le _
  | cons a l ih =>
    have h1 := h a (by simp)
    have h2 := ih fun r hr => h r (by simp [hr])
    simp only [tot, List.map_cons, List.sum_cons, List.length_cons] at h2 ⊢
    omega
def packJ (l : List Bus) (full : Bool) (i : Nat) (T : Tm) (H : Heap) : Prop :=
  T 7 = .sl 3 full (l.map busC) ∧ T 8 = I l.length ∧ T 9 = I i ∧ ∃ b f, T 3 = .osl b 0 (packL (l.take i)).length f ∧ blkOf H b = some ⟨28, 4, (packL (l.take i)).map runC, 0⟩
theorem pack_ok (l : List Bus) (full : Bool) (hl : l.length ≤ 1048576) : FnOwn Try.prog 7 [.sl 3 full (l.map busC)] 28 4 ((packL l).map runC) := by
  refine FnOwn.of ?_ ?_ ?_
  · refine AC.body cc7 (by simp [ic7]) ?_
    simp only [ic7]
    refine IW.seq (IW.region ?_)
    repeat (first | (apply ROps.q ; focus (simp only [go_sem]; rfl)) | fail)
    refine ROps.nil ?_
    refine IW.seq (IW.region ?_)
    repeat (first | (apply ROps.q ; focus (simp only [go_sem]; rfl)) | fail)
    refine ROps.nil ?_
    simp only [pushB_none]
    refine IW.own 3 28 4 rfl ?_
    refine IW.seq (IW.seq (IW.region ?_))
    repeat (first | (apply ROps.q ; focus (simp only [go_sem]; rfl)) | fail)
    refine ROps.nil ?_
    refine IW.range (id := 0) (k := 1) (ti := 9) (tn := 8) (tc := 10) (t1 := 41) l.length (packJ l full) (by omega) ?_ ?_ ?_ ?_
    · refine ⟨rfl, by simp [put_at], rfl, 0, true, rfl, rfl⟩
    · rintro i T H ⟨h7, h8, h9, _⟩
      exact ⟨h9, h8⟩
    · rintro i T H hi ⟨h7, h8, h9, b, f, h3, hb⟩
      obtain ⟨x, hx⟩ : ∃ x, l[i]? = some x := ⟨l[i], List.getElem?_eq_getElem hi⟩
      have hc : (l.map busC)[i]? = some [I x.what, I x.addr, I x.data] := by simp [hx, busC]
      have hbl := blkOf_lt hb
      repeat refine IW.seq ?_
      refine IW.region ?_
      repeat (first | (apply ROps.q ; focus (simp only [go_sem, h7, h9, iasD_sl hc]; rfl)) | fail)
      apply ROps.e ; focus (simp only [estep, ecore, go_sem, blkOf_new, modH_some, modH_none]; rfl)
      refine ROps.nil ?_
      simp only [put_none]
      have hb2 : ∀ o, blkOf (H ++ [o]) b = some ⟨28, 4, (packL (l.take i)).map runC, 0⟩ := fun o => (blkOf_old hbl).trans hb
      have hpk : packL (l.take (i + 1)) = packS (packL (l.take i)) x := by
        rw [packL, List.take_add_one, List.foldl_append, hx]; rfl
      have htk : (l.take i).length = i := by simp; omega
      have hlen : (packL (l.take i)).length ≤ i := by
        have h1 := len_tot (packL_pos (l.take i))
        rw [packL_tot, htk] at h1
        exact h1
      have hmany : ∀ r ∈ packL (l.take i), r.2 ≤ i := fun r hr => by
        have h1 := le_tot hr
        rw [packL_tot, htk] at h1
        exact h1
      generalize packL (l.take i) = out at *
      refine IW.cut (fun T1 H1 => H1 = H ++ [some ⟨26, 3, [[I x.what, I x.addr, I x.data]], 0⟩] ∧ T1 3 = .osl b 0 out.length f ∧ T1 5 = .ptr H.length 0 0 ∧ T1 7 = .sl 3 full (l.map busC) ∧ T1 8 = I l.length ∧ T1 9 = I i ∧ packS out x = out ++ [(x, 1)]) ?_ ?_
      · refine IW.seq (IW.region ?_)
        repeat (first | (apply ROps.q ; focus (simp only [go_sem, h3]; rfl)) | fail)
        refine ROps.nil ?_
        refine IW.seq (IW.dquiet rfl ?_)
        rcases snoc_cases out with rfl | ⟨o, r, rfl⟩
        · repeat (first | (apply QRun.q ; focus (simp only [go_sem]; rfl)) | fail)
          repeat (first | (refine QRun.gf (v := false) ?_ Bool.false_ne_true ?_; focus (simp [put_at]; done)) | fail)
          repeat (first | (apply QRun.q ; focus (simp only [go_sem]; rfl)) | fail)
          refine QRun.nil ?_
          refine IW.cond (b := false) (by simp [put_at, Opd.ev]) (fun h => by cases h) fun _ => IW.skip ?_
          simp [put_at, h3, h7, h8, h9, pushB_none, packS]
        · have h17 : decide ((((o ++ [r]).length : Nat) : Int) > 0) = true := by simp
          have hw : IntKind.i64.wrap ((((o ++ [r]).length : Nat) : Int) - 1) = o.length := by
            simp only [List.length_append, List.length_cons, List.length_nil] at hlen ⊢
            rw [w64 (by omega) (by omega)]
            omega
          have hlt : o.length < (o ++ [r]).length := by simp
          have he : ((o ++ [r]).map runC)[o.length]? = some [I r.1.what, I r.1.addr, I r.1.data, I r.2] := by simp [runC]
          have hcmp : (r.1.what == x.what && (r.1.addr == x.addr && (r.1.data == x.data && true))) = decide (r.1 = x) := by
            obtain ⟨⟨a1, a2, a3⟩, k⟩ := r
            obtain ⟨c1, c2, c3⟩ := x
            rw [Bool.eq_iff_iff]
            simp
          repeat (first | (apply QRun.q ; focus (simp only [go_sem]; rfl)) | fail)
          repeat (first | (apply QRun.gt; (focus (simp [put_at, h3, h17, hw, iasD_osl (hb2 _) rfl hlt, hb2, he, blkOf_new, eqCells, eqCell]; done)); apply QRun.q; focus (simp only [go_sem, h3, h17, hw, iasD_osl (hb2 _) rfl hlt, hb2, he, blkOf_new, eqCells, eqCell]; rfl)) | fail)
          repeat (first | (apply QRun.q ; focus (simp only [go_sem]; rfl)) | fail)
          refine QRun.nil ?_
          refine IW.cond (b := decide (r.1 = x)) (by simp [put_at, Opd.ev, ← hcmp]; rfl) (fun h => ?_) fun h => IW.skip ?_
          · have hrx : r.1 = x := of_decide_eq_true h
            refine IW.seq (IW.region ?_)
            repeat (first | (apply ROps.q ; focus (simp only [go_sem, h3, hw, iasD_osl (hb2 _) rfl hlt, hb2, he, blkOf_new]; rfl)) | fail)
            apply ROps.e ; focus (simp only [estep, ecore, go_sem, blkOf_new, modH_some, modH_none, he, hb2]; rfl)
            refine ROps.nil ?_
            refine IW.exit ?_
            have hk : r.2 ≤ i := hmany r (by simp)
            have hpk2 : packL (l.take (i + 1)) = o ++ [(r.1, r.2 + 1)] := by rw [hpk, packS_snoc, if_pos hrx]
            simp only [inB, if_true]
            refine ⟨by simp only [go_sem, h9], by simp only [go_sem, h7], by simp only [go_sem, h8], by simp only [go_sem], b, f, by simp only [go_sem, h3, hpk2]; simp, ?_⟩
            rw [hpk2, blkOf_set_same (by simp; omega), w64 (by omega) (by omega)]
            simp [runC]
          · have hrx : ¬ r.1 = x := of_decide_eq_false h
            refine ⟨by simp only [pushB_none], by simp only [go_sem, h3], by simp only [go_sem], by simp only [go_sem, h7], by simp only [go_sem, h8], by simp only [go_sem, h9], by rw [packS_snoc, if_neg hrx]⟩
      · rintro T1 H1 ⟨rfl, g3, g5, g7, g8, g9, gp⟩
        refine IW.region ?_
        repeat (first | (apply ROps.q ; focus (simp only [go_sem, g3, g5, blkOf_new]; rfl)) | fail)
        simp only [pushB_none, pushB_some]
        have hbm : b < (H ++ [some (⟨26, 3, [[I x.what, I x.addr, I x.data]], 0⟩ : Blk)]).length := by simp; omega
        refine ROps.e (estep_app (b := b) (n := out.length) (f := f) (by simp only [go_sem]) ((blkOf_old hbm).trans (hb2 _)) (by simp) (news := [[I x.what, I x.addr, I x.data, I 1]]) (by simp only [go_sem]; exact newsD_all (blkOf_new _ _) rfl) (by simp; omega) (by simp; omega)) ?_
        repeat (first | (apply ROps.q ; focus (simp only [go_sem]; rfl)) | fail)
        refine ROps.nil ?_
        unfold Nx packJ
        refine ⟨by simp only [go_sem, g9], by simp only [go_sem, g7], by simp only [go_sem, g8], by simp only [go_sem], ?_⟩
        rw [hpk, gp]
        simp only [go_sem, List.map_append]
        refine ⟨_, false, congrArg (D.osl _ 0 · false) (by simp), ?_⟩
        rw [blkOf_app_new]
        simp [runC]
    · rintro T1 H1 ⟨h7, h8, h9, b, f, h3, hb⟩
      refine IW.seq (IW.region ?_)
      repeat (first | (apply ROps.q ; focus (simp only [go_sem, h3]; rfl)) | fail)
      refine ROps.nil (IW.ret ⟨_, by simp only [resD, rvD, go_sem]; rfl, ?_⟩)
      rw [List.take_length] at *
      exact ⟨b, _, f, _, rfl, by simp, hb, rfl, rfl, rfl, rfl⟩
  · simp only [pureL, pureD, Bool.and_true]
    exact pureR_of fun e he => by
      obtain ⟨x, _, rfl⟩ := List.mem_map.1 he
      rfl
  · exact pureR_of fun e he => by
      obtain ⟨x, _, rfl⟩ := List.mem_map.1 he
      rfl
end Go.Proofs.Ytlagfebklcaaeaa

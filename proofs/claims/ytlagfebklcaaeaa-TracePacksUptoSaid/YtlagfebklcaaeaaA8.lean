/- A value-level machine over the model, part 8: every operation that writes to no old block is sound. -/
import Derived.Test.YtlagfebklcaaeaaA7
namespace Go.Proofs.Ytlagfebklcaaeaa
set_option linter.all false
section
variable {P : Program} {Hf H : Heap} {s : St} {nid : Nat} {d : D} {nb : Option Blk} {T : Tm} {a : Act}

theorem guard_int (op : BinOp) (t : TypeId) (X Y : Operand) (k : IntKind) (n : Int) (u : Value) (w : World) : (eqGuard op t X Y (.int k n) u).run P w = .ok () w := by
  cases op <;> rfl
theorem guard_str (op : BinOp) (t : TypeId) (X Y : Operand) (n : ByteArray) (u : Value) (w : World) : (eqGuard op t X Y (.string n) u).run P w = .ok () w := by
  cases op <;> rfl
theorem guard_bool (op : BinOp) (t : TypeId) (X Y : Operand) (n : Bool) (u : Value) (w : World) : (eqGuard op t X Y (.bool n) u).run P w = .ok () w := by
  cases op <;> rfl
theorem equalIn_bool (n : Nat) (a b : Bool) {t : TypeId} (w : World) (h : P.underlying t = some .bool) : (Op.equalIn (n + 1) t (.bool a) (.bool b)).run P w = .ok (a == b) w := by
  simp [Op.equalIn, run_underlying h]
theorem equalIn_int (n : Nat) (k kk : IntKind) (a b : Int) {t : TypeId} (w : World) (h : P.underlying t = some (.int kk)) : (Op.equalIn (n + 1) t (.int k a) (.int k b)).run P w = .ok (a == b) w := by
  simp [Op.equalIn, run_underlying h]
theorem equal_bool (a b : Bool) {t : TypeId} (w : World) (h : P.underlying t = some .bool) : (Op.equal t (.bool a) (.bool b)).run P w = .ok (a == b) w :=
  equalIn_bool 9999 a b w h
theorem binInt_run {op : BinOp} {k : IntKind} {x y : Int} (t : TypeId) (h : binInt op k x y = some d) : ∃ r, (binOp op t (.int k x) (.int k y)).run P s.w = .ok r s.w ∧ Rep s d r := by
  cases op <;> simp only [binInt] at h <;> first
    | (cases h; done)
    | (cases h; refine ⟨_, ?_, by simp only [Rep]; rfl⟩; simp [binOp, Op.intArith, Op.intBits, Op.intCmp]; done)
    | (split at h
       · cases h
       · rename_i hb
         cases h; refine ⟨_, ?_, by simp only [Rep]; rfl⟩; simp [binOp, Op.intDiv, hb])
theorem binStr_run {op : BinOp} {x y : ByteArray} (t : TypeId) (h : binStr op x y = some d) : ∃ r, (binOp op t (.string x) (.string y)).run P s.w = .ok r s.w ∧ Rep s d r := by
  cases op <;> simp only [binStr] at h <;> first
    | (cases h; done)
    | (cases h; refine ⟨_, ?_, by simp only [Rep]; rfl⟩; simp [binOp, Op.stringOp]; done)
    | (split at h
       · rename_i hb
         cases h; refine ⟨_, ?_, by simp only [Rep]; rfl⟩
         have hb' : ¬ (((x.size + y.size : Nat) : Int) > IntKind.i64.max) := fun hh => by
           have : IntKind.i64.max = 9223372036854775807 := by decide
           rw [this] at hh
           omega
         simp only [binOp, Op.stringOp, if_neg hb', Sem.run_pure]
       · cases h)
theorem shiftD_run {op : BinOp} {k k' : IntKind} {x y : Int} (t : TypeId) (ho : op = .shl ∨ op = .shr) (h : shiftD op k x y = some d) : ∃ r, (binOp op t (.int k x) (.int k' y)).run P s.w = .ok r s.w ∧ Rep s d r := by
  unfold shiftD at h
  split at h
  · cases h
  · rename_i hb
    rcases ho with rfl | rfl <;> (simp only at h; cases h; refine ⟨_, ?_, by simp only [Rep]; rfl⟩; simp [binOp, Op.shift, hb])
theorem bin_rep {op : BinOp} {t : TypeId} {x y : D} {v u : Value} (hx : Rep s x v) (hy : Rep s y u) (h : binD op x y = some d) (X Y : Operand) :
    ∃ r, (do eqGuard op t X Y v u; binOp op t v u : Sem Value).run P s.w = .ok r s.w ∧ Rep s d r := by
  unfold binD at h
  split at h
  · simp only [Rep] at hx hy
    subst hx hy
    obtain ⟨r, h1, h2⟩ := shiftD_run (P := P) (s := s) t (.inl rfl) h
    exact ⟨r, by simp only [Sem.run_bind, guard_int, Result.andThen_ok]; exact h1, h2⟩
  · simp only [Rep] at hx hy
    subst hx hy
    obtain ⟨r, h1, h2⟩ := shiftD_run (P := P) (s := s) t (.inr rfl) h
    exact ⟨r, by simp only [Sem.run_bind, guard_int, Result.andThen_ok]; exact h1, h2⟩
  · split at h
    · rename_i hkk
      subst hkk
      simp only [Rep] at hx hy
      subst hx hy
      obtain ⟨r, h1, h2⟩ := binInt_run (P := P) (s := s) t h
      exact ⟨r, by simp only [Sem.run_bind, guard_int, Result.andThen_ok]; exact h1, h2⟩
    · cases h
  · simp only [Rep] at hx hy
    subst hx hy
    obtain ⟨r, h1, h2⟩ := binStr_run (P := P) (s := s) t h
    exact ⟨r, by simp only [Sem.run_bind, guard_str, Result.andThen_ok]; exact h1, h2⟩
  · cases h
theorem beq_rep {op : BinOp} {neq : Bool} {t : TypeId} {x y : Bool} (ht : P.underlying t = some .bool) (ho : (op = .eql ∧ neq = false) ∨ (op = .neq ∧ neq = true)) (X Y : Operand) :
    ∃ r, (do eqGuard op t X Y (.bool x) (.bool y); binOp op t (.bool x) (.bool y) : Sem Value).run P s.w = .ok r s.w ∧ Rep s (.bool (if neq then !(x == y) else x == y)) r := by
  rcases ho with ⟨rfl, rfl⟩ | ⟨rfl, rfl⟩ <;> refine ⟨_, ?_, by simp only [Rep]; rfl⟩ <;> simp only [Sem.run_bind, guard_bool, Result.andThen_ok, binOp, equal_bool _ _ _ ht, Sem.run_pure] <;> rfl
theorem un_rep {op : UnOp} {x : D} {v : Value} (hx : Rep s x v) (h : unD op x = some d) : ∃ r, (Op.unary op v).run P s.w = .ok r s.w ∧ Rep s d r := by
  unfold unD at h
  split at h <;> first
    | (cases h; simp only [Rep] at hx; subst hx; refine ⟨_, ?_, by simp only [Rep]; rfl⟩; simp [Op.unary, Op.intArith, Op.intBits]; done)
    | (cases h; done)
theorem ext_rep {c : List D} {i : Nat} {v : Value} (hx : Rep s (.tup c) v) (h : c[i]? = some d) : ∃ r, (Instr.extract v i).run P s.w = .ok r s.w ∧ Rep s d r := by
  simp only [Rep] at hx
  obtain ⟨vs, rfl, hr⟩ := hx
  obtain ⟨u, hu, hr⟩ := RepL_at hr h
  refine ⟨u, ?_, hr⟩
  have hu' : vs[i]? = some u := by simpa using hu
  simp [Instr.extract, hu']
theorem part_rep {t : TypeId} {c : List D} {vs : Array Value} {off : Nat} {n : Option Nat} (ht : shapeT P t = some n) (hr : RepL s c vs.toList) (h1 : ∀ u ∈ vs.toList, u.oneCell' = true) (h : takeD c off n = some d) :
    ∃ r, (part t vs off).run P s.w = .ok r s.w ∧ Rep s d r := by
  unfold shapeT at ht
  split at ht
  · rename_i m ha hn
    cases ht
    simp only [takeD] at h
    split at h
    · cases h
      refine ⟨.agg (vs.extract off (off + m)), by simp [part, aggT_run ha, szT_run hn], ?_⟩
      simp only [Rep]
      refine ⟨_, rfl, fun u hu => ?_, ?_⟩
      · refine h1 u ?_
        simp only [Array.toList_extract, List.extract_eq_take_drop] at hu
        exact List.mem_of_mem_drop (List.mem_of_mem_take hu)
      · simp only [Array.toList_extract, List.extract_eq_take_drop, Nat.add_sub_cancel_left]
        exact RepL_take (RepL_drop hr off) m
    · cases h
  · rename_i ha hn
    cases ht
    simp only [takeD] at h
    obtain ⟨u, hu, hr⟩ := RepL_at hr h
    have hu' : vs[off]? = some u := by simpa using hu
    exact ⟨u, by simp [part, aggT_run ha, hu'], hr⟩
  · cases ht
theorem len_rep {x : D} {v : Value} {n : Nat} (hx : Rep s x v) (h : lenD x = some n) : ∃ a c, v = .slice a n c ∧ n ≤ c ∧ (fullD x = true → c = n) := by
  unfold lenD at h
  split at h
  · cases h
    simp only [Rep] at hx
    obtain ⟨a, c, rfl, h1, h2, _⟩ := hx
    exact ⟨a, c, rfl, h1, h2⟩
  · cases h
    simp only [Rep] at hx
    obtain ⟨_, c, _, h1, h2, hx⟩ := hx
    rcases hx with ⟨rfl, rfl, a, rfl⟩ | ⟨_, _, _, _, rfl, _⟩
    · exact ⟨a, 0, rfl, h1, h2⟩
    · exact ⟨_, c, rfl, h1, h2⟩
  · cases h
theorem bound_run {isS : Bool} {l h n cap : Nat} {lo hi : Option Value} (hl : (lo = none ∧ l = 0) ∨ ∃ k, lo = some (.int k (l : Int))) (hh : (hi = none ∧ h = n) ∨ ∃ k, hi = some (.int k (h : Int))) (hlh : l ≤ h) (hhc : h ≤ cap) (w : World) :
    (Instr.sliceBounds isS n cap lo hi none).run P w = .ok (l, h, cap) w := by
  have e1 : (h : Int) ≤ (cap : Int) := by omega
  have e2 : (l : Int) ≤ (h : Int) := by omega
  rcases hl with ⟨rfl, rfl⟩ | ⟨k, rfl⟩ <;> rcases hh with ⟨rfl, rfl⟩ | ⟨k', rfl⟩ <;> simp [Instr.sliceBounds, Instr.sliceBound, asIntOf, hlh, hhc]
theorem slice_rep {t e : TypeId} {sz : Nat} {x : D} {v : Value} {n l h : Nat} {lo hi : Option Value} {whole : Bool} (I : Inv Hf s) (hr : Reads Hf H s) (ht : sliceT P t = some e) (hsz : szT P e = some sz) (hx : Rep s x v) (hn : lenD x = some n)
    (hok : szOk H sz x = true) (hl : (lo = none ∧ l = 0) ∨ ∃ k, lo = some (.int k (l : Int))) (hh : (hi = none ∧ h = n) ∨ ∃ k, hi = some (.int k (h : Int))) (hw : whole = true → h = n) (hlh : l ≤ h) (hhn : h ≤ n) (hs : sliceD (fullD x) whole l h x = some d) :
    ∃ r, (Instr.sliceAt t v lo hi none).run P s.w = .ok r s.w ∧ Rep s d r := by
  obtain ⟨a, cap, rfl, h1, h2⟩ := len_rep hx hn
  refine ⟨.slice (if cap = l then a else a.map (·.add (l * sz))) (h - l) (cap - l), ?_, ?_⟩
  · simp only [Instr.sliceAt, Sem.run_bind, run_underlying (sliceT_spec ht), Result.andThen_ok, Instr.slice, bound_run hl hh hlh (Nat.le_trans hhn h1), szT_run hsz, Sem.run_pure]
  · have hfull : (fullD x && whole) = true → cap - l = h - l := fun hf => by
      simp only [Bool.and_eq_true] at hf
      have := h2 hf.1
      have := hw hf.2
      omega
    unfold sliceD at hs
    split at hs
    · rename_i z f es
      cases hs
      simp only [lenD, Option.some.injEq] at hn
      simp only [Rep, Int.toNat_natCast] at hx ⊢
      obtain ⟨a', cap', he, _, _, hx⟩ := hx
      cases he
      have hlen : ((es.take h).drop l).length = h - l := by simp; omega
      refine ⟨_, cap - l, by rw [hlen], by rw [hlen]; omega, by rw [hlen]; exact hfull, ?_⟩
      by_cases hemp : (es.take h).drop l = []
      · exact .inl hemp
      · right
        have hlt : l < h := by
          refine Nat.lt_of_not_le fun hle => hemp (List.eq_nil_of_length_eq_zero (by omega))
        rcases hx with rfl | ⟨g, o, rfl, hrow⟩
        · simp at hemp
        · have hz : z = sz := by
            simp only [szOk, Bool.or_eq_true, decide_eq_true_eq, List.isEmpty_iff] at hok
            rcases hok with hok | rfl
            · exact hok
            · simp at hemp
          subst hz
          refine ⟨g, o + l * z, by rw [if_neg (by omega)]; simp [add_none], RepR_of fun i c hi => ?_⟩
          rw [List.getElem?_drop, List.getElem?_take] at hi
          split at hi
          · have := RepR_at hrow hi
            rwa [show o + l * z + i * z = o + (l + i) * z from by rw [Nat.add_mul]; omega]
          · cases hi
    · rename_i b o m f
      cases hs
      simp only [lenD, Option.some.injEq] at hn
      subst hn
      simp only [Rep, Int.toNat_natCast] at hx ⊢
      obtain ⟨lc, cap', hρ, _, _, hx⟩ := hx
      refine ⟨lc, cap - l, hρ, by omega, hfull, ?_⟩
      rcases hx with ⟨rfl, rfl, a', he⟩ | ⟨g, el, N, hg, he, hshape, hN⟩
      · cases he
        exact .inl ⟨by omega, by omega, _, by rw [show h - l = 0 from by omega, show 0 - l = 0 from by omega]⟩
      · cases he
        by_cases hcl : cap = l
        · refine .inl ⟨by omega, by omega, _, by rw [show h - l = 0 from by omega, show cap - l = 0 from by omega]⟩
        · refine .inr ⟨g, el, N, hg, ?_, hshape, ?_⟩
          · have hz : lc.sz = sz := by
              simp only [szOk] at hok
              split at hok
              · rename_i blk hb
                rw [← of_decide_eq_true hok]
                exact (I.rel b blk lc (hr b blk (blkOf_some hb) (by simp [hρ])) hρ).size
              · cases hok
            rw [if_neg hcl, ← hz]
            simp only [Option.map_some, add_none]
            rw [show lc.off + o * lc.sz + l * lc.sz = lc.off + (o + l) * lc.sz from by rw [Nat.add_mul]; omega]
          · rwa [show o + l + (cap - l) = o + cap from by omega]
    · cases hs
end
end Go.Proofs.Ytlagfebklcaaeaa

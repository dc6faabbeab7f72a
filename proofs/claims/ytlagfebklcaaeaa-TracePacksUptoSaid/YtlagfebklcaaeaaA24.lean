/- A value-level machine over the model, part 24: append and its like at a list that is the caller's own. -/
import Derived.Test.YtlagfebklcaaeaaA23
namespace Go.Proofs.Ytlagfebklcaaeaa
set_option linter.all false
theorem flatL_mem {ds : List D} (h : flatL ds = true) : ∀ d ∈ ds, flatD d = true := by
  induction ds with
  | nil => intro d hd; cases hd
  | cons a l ih =>
    simp only [flatL, Bool.and_eq_true] at h
    intro d hd
    rcases List.mem_cons.1 hd with rfl | hd
    · exact h.1
    · exact ih h.2 d hd
theorem snoc_cases {α : Type} (l : List α) : l = [] ∨ ∃ o r, l = o ++ [r] := by
  rcases List.eq_nil_or_concat l with h | ⟨o, r, h⟩
  · exact .inl h
  · exact .inr ⟨o, r, by rw [h, List.concat_eq_append]⟩
section
variable {H : Heap} {T : Tm}
theorem newsD_osl {b o n sz : Nat} {f : Bool} {blk : Blk} (hb : blkOf H b = some blk) (hz : blk.sz = sz) (hn : o + n ≤ blk.es.length) : newsD H sz (.osl b o n f) = some ((blk.es.drop o).take n) := by
  simp [newsD, szOk, hb, hz, elemsD, hn]
theorem newsD_all {b sz n : Nat} {f : Bool} {e : TypeId} {es : List (List D)} {ro : Nat} (hb : blkOf H b = some ⟨e, sz, es, ro⟩) (hn : n = es.length) : newsD H sz (.osl b 0 n f) = some es := by
  subst hn
  rw [newsD_osl hb rfl (by simp)]
  simp
theorem newsD_sl {z sz : Nat} {f : Bool} {es : List (List D)} (h : z = sz ∨ es = []) : newsD H sz (.sl z f es) = some es := by
  rcases h with h | h <;> simp [newsD, szOk, elemsD, h]
theorem estep_app {b n e sz bytes : Nat} {f : Bool} {x y : Opd} {es news : List (List D)} (hx : x.ev T = .osl b 0 n f) (hb : blkOf H b = some ⟨e, sz, es, 0⟩) (hn : n = es.length) (hy : newsD H sz (y.ev T) = some news)
    (h1 : (es.length + news.length) * bytes ≤ 140737488355328) (h2 : es.length + news.length ≤ 9223372036854775807) :
    estep (.app e sz bytes x y) T H = some (.osl H.length 0 (es.length + news.length) false, H.set b none ++ [some ⟨e, sz, es ++ news, 0⟩]) := by
  subst hn
  have hc : 0 + es.length = es.length ∧ True ∧ True ∧ 0 ≤ es.length ∧ (es.length + news.length) * bytes ≤ 140737488355328 ∧ es.length + news.length ≤ 9223372036854775807 := ⟨by omega, trivial, trivial, by omega, h1, h2⟩
  simp only [estep, ecore, hy, hx, hb, Option.bind_some, if_pos hc, Option.map_some, modH_some, pushB_some, List.drop_zero, Nat.zero_sub]
theorem blkOf_app_new {b : Nat} {o : Option Blk} {x : Blk} : blkOf (H.set b o ++ [some x]) H.length = some x := by
  have := blkOf_new (H.set b o) x
  rwa [List.length_set] at this
theorem blkOf_app_old {b c : Nat} {o : Option Blk} {x : Option Blk} (hc : c < H.length) (hn : b ≠ c) : blkOf (H.set b o ++ [x]) c = blkOf H c := by
  rw [blkOf_old (by simpa using hc), blkOf_set_ne hn]
theorem IW.cut {P : Program} {n : Nat} {x y : IC} {K : Tm → Heap → Prop} {X : Ex → Tm → Heap → Prop} (K1 : Tm → Heap → Prop) (h1 : IW P n x T H K1 X) (h2 : ∀ T1 H1, K1 T1 H1 → IW P n y T1 H1 K X) : IW P n (.seq x y) T H K X :=
  IW.seq (h1.mono h2 fun _ _ _ h => h)
theorem Lend.own {b n sz ro : Nat} {e : TypeId} {f : Bool} {es : List (List D)} (hb : blkOf H b = some ⟨e, sz, es, ro⟩) (hn : n = es.length) (hp : pureR es = true) : Lend H (.osl b 0 n f) (.sl sz false es) := by
  subst hn
  have := Lend.osl (f := f) (f' := false) (o := 0) (n := es.length) hb (by simp) (es := es) (by
    have e : (es.drop 0).take es.length = es := by simp
    simp only [e]
    exact .pure hp) (fun h => by cases h)
  exact this
/-- A call that makes a slice of flat elements, the arguments' own blocks being lent. -/
theorem FnOwn.lend {P : Program} {f : FuncId} {xs xs' : List D} {e : TypeId} {sz : Nat} {es : List (List D)} (h : FnOwn P f xs' e sz es) (hl : LendL H xs xs') (hf : ∀ c ∈ es, flatL c = true) :
    AC P f H xs fun r' H' => r' = .osl H.length 0 es.length false ∧ H' = H ++ [some ⟨e, sz, es, 0⟩] := by
  refine ⟨h.1, fun s vs I hvs => ?_⟩
  have I0 := bare_inv (s := s) (NI := fun _ _ => False) (fun _ _ h => h.elim)
  have V : View H s (s.bare fun _ _ => False) := ⟨I, rfl, fun _ _ h => h.elim⟩
  refine ((h.ac []).2 (s.bare fun _ _ => False) vs I0 (LendL.rep V hl _ hvs)).mono fun e' w ⟨v, r', H2, s2, h1, h2, ⟨h3, h3'⟩, I2, E2, h4⟩ => ?_
  subst h1 h2 h3 h3'
  have h4' := h4
  simp only [Rep, List.length_nil] at h4'
  obtain ⟨l, cap, hρ, q1, q2, q3⟩ := h4'
  have h6 : blkOf ([] ++ [some (⟨e, sz, es, 0⟩ : Blk)]) 0 = some ⟨e, sz, es, 0⟩ := rfl
  have hn : (H ++ [none])[H.length]? = some none := by simp
  have key := own_over (es := es) (I.more [none]) I2 E2 hn (rho_none I (Nat.le_refl _)) h6 hρ (fun s3 hw hni => by
      have hbr := I2.rel 0 _ l (blkOf_some h6) hρ
      refine ⟨hbr.size, fun hn => hbr.nil hn, fun c hc => ?_⟩
      obtain ⟨cs, hcs, hrow⟩ := hbr.row c hc
      refine ⟨cs, by rw [hw]; exact hcs, fun k cells hk => ?_⟩
      obtain ⟨p1, p2⟩ := hrow k cells hk
      refine ⟨p1, fun j d hj => ?_⟩
      obtain ⟨u, u1, u2, u3⟩ := p2 j d hj
      exact ⟨u, u1, u2, Rep.flat d u (flatL_mem (hf cells (List.mem_of_getElem? hk)) d (List.mem_of_getElem? hj)) u3⟩)
  have e1 : (H ++ [none]).set H.length (some (⟨e, sz, es, 0⟩ : Blk)) = H ++ [some ⟨e, sz, es, 0⟩] := by
    rw [List.set_append_right _ _ (Nat.le_refl _), Nat.sub_self, List.set_cons_zero]
  simp only [e1] at key
  refine ⟨v, _, _, ⟨s2.w, fun n => if n = H.length then some l else s.ρ n, fun c o => s.NI c o ∨ (s.w.heap.size ≤ c ∧ s2.NI c o)⟩, rfl, rfl, ⟨rfl, rfl⟩, key.1, key.2.of_more I, ?_⟩
  simp only [Rep]
  exact ⟨l, cap, by simp, q1, by simp, q3⟩
theorem eq_i (a b : Int) : (a == b) = decide (a = b) := rfl
end
end Go.Proofs.Ytlagfebklcaaeaa

/- A value-level machine over the model, part 10: the theorem on all quiet operations. -/
import Derived.Test.YtlagfebklcaaeaaA9B
namespace Go.Proofs.Ytlagfebklcaaeaa
set_option linter.all false
section
variable {P : Program} {Hf H : Heap} {s : St} {nid : Nat} {d : D} {nb : Option Blk} {T : Tm} {a : Act}

theorem QR.of {x : Sem Value} {v : Value} (I : Inv Hf s) (hr : x.run P s.w = .ok v s.w) (h : Rep s d v) : QR P Hf s nid d nb (do Pure.pure (Next.value (← x))) :=
  QR.pure I (run_value hr) h
theorem QR.ex {x : Sem Value} (I : Inv Hf s) (h : ∃ r, x.run P s.w = .ok r s.w ∧ Rep s d r) : QR P Hf s nid d nb (do Pure.pure (Next.value (← x))) :=
  let ⟨_, h1, h2⟩ := h
  QR.of I h1 h2
theorem rep_int {k : IntKind} {n : Int} {v : Value} (h : Rep s (.int k n) v) : v = .int k n := by simpa only [Rep] using h
theorem rep_bool {b : Bool} {v : Value} (h : Rep s (.bool b) v) : v = .bool b := by simpa only [Rep] using h
theorem rep_str {b : ByteArray} {v : Value} (h : Rep s (.str b) v) : v = .string b := by simpa only [Rep] using h

theorem call_args {c : Call} {f : Operand → Value} (P : Program) (w : World) (b : Builtin) (hc : c.callee = .builtin b) (ty : TypeId) :
    (do let d ← resolve f c ty; invoke d.target d.args).run P w = (builtin b c.argTypes ty (c.args.map fun | .const _ => true | _ => false) (c.args.map f)).run P w := by
  simp [resolve, hc, invoke]
  rfl
theorem idx_bound {lo : Option Operand} {lo' : Option Opd} {x l : Int} (hT : TRel s T a) (hc : (match lo with | none => some none | some y => (cOpd y).map some) = some lo') (h : idxD T lo' x = some l) (h0 : 0 ≤ l) :
    (lo.map a.eval = none ∧ l = x ∧ lo'.isNone = true) ∨ ∃ k, lo.map a.eval = some (.int k (l.toNat : Int)) := by
  cases lo with
  | none =>
    cases hc
    simp only [idxD, Option.some.injEq] at h
    exact .inl ⟨rfl, h.symm, rfl⟩
  | some y =>
    simp only [Option.map_eq_some_iff] at hc
    obtain ⟨z, hz, rfl⟩ := hc
    simp only [idxD] at h
    have hr := opd_rep hT hz
    split at h
    · rename_i k n he
      cases h
      rw [he] at hr
      right
      exact ⟨k, by simp [rep_int hr, Int.toNat_of_nonneg h0]⟩
    · cases h
theorem q_sound {o : Oper} {op : IOp} (hc : cOp P o = some op) (hT : TRel s T a) (I : Inv Hf s) (hr : Reads Hf H s) (hs : qstep op T H nid = some (d, nb))
    (hnb : ∀ blk, nb = some blk → Hf[nid]? = some (some blk) ∧ s.ρ nid = none) : QR P Hf s nid d nb (execOp a.eval o) := by
  obtain ⟨dst, oop, ty, pos, after, guard⟩ := o
  cases oop with
  | move x =>
    simp only [cOp, Option.map_eq_some_iff] at hc
    obtain ⟨y, hy, rfl⟩ := hc
    simp only [qstep, Option.some.injEq, Prod.mk.injEq] at hs
    obtain ⟨rfl, rfl⟩ := hs
    exact QR.pure I rfl (opd_rep hT hy)
  | assign x =>
    simp only [cOp, Option.map_eq_some_iff] at hc
    obtain ⟨y, hy, rfl⟩ := hc
    simp only [qstep, Option.some.injEq, Prod.mk.injEq] at hs
    obtain ⟨rfl, rfl⟩ := hs
    exact QR.pure I rfl (opd_rep hT hy)
  | pick c x y =>
    simp only [cOp] at hc
    split at hc
    · rename_i c' x' y' h1 h2 h3
      cases hc
      have r1 := opd_rep hT h1
      have r2 := opd_rep hT h2
      have r3 := opd_rep hT h3
      simp only [qstep] at hs
      split at hs
      · rename_i t ht
        rw [ht] at r1
        have hb := rep_bool r1
        split at hs
        · rename_i bx b_y hx hy
          cases hs
          rw [hx] at r2
          rw [hy] at r3
          refine QR.pure (v := .bool (if t then bx else b_y)) I ?_ (by simp only [Rep])
          simp only [execOp, hb, rep_bool r2, rep_bool r3, asBool]
          cases t <;> rfl
        · cases hs
          refine QR.pure (v := if t then a.eval x else a.eval y) I ?_ ?_
          · simp only [execOp, hb, asBool]
            cases t <;> rfl
          · cases t
            · exact r3
            · exact r2
      · cases hs
    · cases hc
  | alloc t =>
    simp only [cOp, Option.map_eq_some_iff] at hc
    obtain ⟨z, hz, rfl⟩ := hc
    simp only [qstep, Option.some.injEq, Prod.mk.injEq] at hs
    obtain ⟨rfl, rfl⟩ := hs
    exact q_new I hz (hnb _ rfl)
  | box t x =>
    simp only [cOp] at hc
    split at hc
    · rename_i n x' h1 h2
      cases hc
      simp only [qstep, Option.map_eq_some_iff, Prod.mk.injEq] at hs
      obtain ⟨c, hb, rfl, rfl⟩ := hs
      exact q_box I (opd_rep hT h2) hb (hnb _ rfl)
    · cases hc
  | build t ps =>
    simp only [cOp] at hc
    split at hc
    · rename_i z pl xs hz hpl hxs
      split at hc
      · rename_i l hl
        cases hc
        simp only [qstep, Option.map_eq_some_iff, Prod.mk.injEq] at hs
        obtain ⟨c, hf, rfl, rfl⟩ := hs
        obtain ⟨z0, z1, z2, z3, z4, _⟩ := zeroT_run hz s.w
        obtain ⟨l1, l2⟩ := optAll_spec hl
        obtain ⟨x1, x2⟩ := optAll_spec hxs
        have key := fill_rep (s := s) (place := pl) (ps := (ps.map fun p => (p.1, a.eval p.2)).toList) (qs := l.map fun p => (p.1, p.2.1, p.2.2.ev T)) (cells := z) (vs := z0.cells) (c := c)
          (by simp [l1, x1]) (fun i p q hp hq => by
            simp only [Array.toList_map, List.getElem?_map, Option.map_eq_some_iff] at hp hq
            obtain ⟨p0, hp0, rfl⟩ := hp
            obtain ⟨q0, hq0, rfl⟩ := hq
            obtain ⟨y, hy, hyo⟩ := x2 i p0 hp0
            have hz : (ps.toList.zip xs)[i]? = some (p0, y) := by rw [List.getElem?_zip_eq_some]; exact ⟨hp0, hy⟩
            obtain ⟨q1, hq1, hpl1⟩ := l2 i _ hz
            rw [hq0] at hq1
            cases hq1
            simp only [Option.map_eq_some_iff] at hpl1
            obtain ⟨q2, hq2, rfl⟩ := hpl1
            exact ⟨hq2, opd_rep hT hyo⟩) (z2 s) z3 hf
        obtain ⟨us, hus, hr1, hr2⟩ := key
        refine QR.of (v := .agg us) I ?_ (by simp only [Rep]; exact ⟨us, rfl, hr2, hr1⟩)
        unfold placesT at hpl
        split at hpl
        · rename_i fs hu
          split at hpl
          · rename_i pls hpls
            cases hpl
            obtain ⟨f1, f2⟩ := optAll_spec hpls
            have hm : (fs.mapM fun f => do Pure.pure (f.offset, ← sizeOf f.type) : Sem (Array (Nat × Nat))).run P s.w = .ok pls.toArray s.w := by
              rw [Array.mapM_eq_mapM_toList]
              have hmm : ∀ (fl : List Field) (pl : List (Nat × Nat)), optAll (fun f : Field => (szT P f.type).map fun n => (f.offset, n)) fl = some pl →
                  (fl.mapM fun f => do Pure.pure (f.offset, ← sizeOf f.type) : Sem (List (Nat × Nat))).run P s.w = .ok pl s.w := by
                intro fl
                induction fl with
                | nil => intro pl h; simp [optAll] at h; subst h; rfl
                | cons f fl ih =>
                  intro pl h
                  simp only [optAll] at h
                  split at h
                  · rename_i b m hb hm
                    cases h
                    simp only [Option.map_eq_some_iff] at hb
                    obtain ⟨n, hn, rfl⟩ := hb
                    have h2 := ih m hm
                    simp at h2
                    simp [List.mapM_cons, szT_run hn, h2]
                  · cases h
              have h3 := hmm fs.toList pls hpls
              simp at h3
              simp [h3]
            simp only [Instr.build, Sem.run_bind, z1, Result.andThen_ok, run_underlying hu, hm]
            simp only [List.getElem?_toArray]
            rw [hus]
            rfl
          · cases hpl
        · rename_i n e hu
          simp only [Option.map_eq_some_iff] at hpl
          obtain ⟨n1, hn1, rfl⟩ := hpl
          simp only [Instr.build, Sem.run_bind, z1, Result.andThen_ok, run_underlying hu, szT_run hn1]
          rw [hus]
          rfl
        · cases hpl
      · cases hc
    · cases hc
  | buildSlice t n ps =>
    simp only [cOp] at hc
    split at hc
    · rename_i e he
      split at hc
      · rename_i sz xs h1 h2
        split at hc
        · rename_i hcond
          cases hc
          simp only [qstep, Option.map_eq_some_iff, Prod.mk.injEq] at hs
          obtain ⟨es, hes, rfl, rfl⟩ := hs
          obtain ⟨x1, x2⟩ := optAll_spec h2
          have hp : ((ps.map fun p => (p.1, a.eval p.2)).toList).map (·.1) = List.range n := by
            rw [← hcond.1]; simp
          have hx : RepL s (xs.map (·.ev T)) (((ps.map fun p => (p.1, a.eval p.2)).toList).map (·.2)) := by
            have e1 : ((ps.map fun p => (p.1, a.eval p.2)).toList).map (·.2) = (ps.toList.map (·.2)).map a.eval := by simp
            rw [e1]
            refine opds_rep hT ?_
            have : ∀ (l : List (Nat × Operand)), optAll cOpd (l.map (·.2)) = optAll (fun p : Nat × Operand => cOpd p.2) l := by
              intro l
              induction l with
              | nil => rfl
              | cons p l ih => simp only [List.map_cons, optAll, ih]
            rw [this]; exact h2
          have hes' : optAll (boxed sz) (xs.map (·.ev T)) = some es := by
            have : ∀ (l : List Opd), optAll (boxed sz) (l.map (·.ev T)) = optAll (fun x => boxed sz (x.ev T)) l := by
              intro l
              induction l with
              | nil => rfl
              | cons p l ih => simp only [List.map_cons, optAll, ih]
            rw [this]; exact hes
          have := q_bsl (P := P) I he h1 hp hcond.2.1 hcond.2.2 hx hes' (hnb _ rfl)
          rw [Array.toArray_toList] at this
          exact this
        · cases hc
      · cases hc
    · cases hc
  | load t x =>
    simp only [cOp] at hc
    split at hc
    · rename_i n x' h1 h2
      cases hc
      simp only [qstep, Option.map_eq_some_iff, Prod.mk.injEq] at hs
      obtain ⟨c, hb, rfl, rfl⟩ := hs
      exact QR.ex I (load_rep I hr h1 (opd_rep hT h2) hb)
    · cases hc
  | store t x y =>
    simp only [cOp] at hc
    split at hc
    · cases hc; cases hs
    · cases hc
  | nilCheck x =>
    simp only [cOp, Option.map_eq_some_iff] at hc
    obtain ⟨y, hy, rfl⟩ := hc
    have r := opd_rep hT hy
    simp only [qstep] at hs
    split at hs <;> first
      | (cases hs; done)
      | (rename_i he
         cases hs
         rw [he] at r
         refine QR.pure (v := a.eval x) I ?_ r
         simp only [Rep] at r
         first
          | (obtain ⟨_, _, _, _, hv⟩ := r; simp [execOp, hv])
          | (obtain ⟨_, _, hv, _⟩ := r; simp [execOp, hv]))
  | binOp op t x y yt =>
    simp only [cOp] at hc
    split at hc
    · rename_i x' y' h1 h2
      have r1 := opd_rep hT h1
      have r2 := opd_rep hT h2
      split at hc
      · cases hc
        simp only [qstep, Option.map_eq_some_iff, Prod.mk.injEq] at hs
        obtain ⟨c, hb, rfl, rfl⟩ := hs
        exact QR.ex I (bin_rep r1 r2 hb x y)
      · split at hc
        · rename_i hbt
          split at hc <;> first
            | (cases hc; done)
            | (cases hc
               simp only [qstep] at hs
               split at hs
               · rename_i b1 b2 e1 e2
                 cases hs
                 rw [e1] at r1
                 rw [e2] at r2
                 simp only [execOp, rep_bool r1, rep_bool r2]
                 first
                  | exact QR.ex I (by simpa using beq_rep (P := P) (s := s) (x := b1) (y := b2) (op := .eql) (neq := false) (boolT_spec hbt) (.inl ⟨rfl, rfl⟩) x y)
                  | exact QR.ex I (by simpa using beq_rep (P := P) (s := s) (x := b1) (y := b2) (op := .neq) (neq := true) (boolT_spec hbt) (.inr ⟨rfl, rfl⟩) x y)
               · cases hs)
        · split at hc
          · rename_i ks hks
            split at hc <;> first
              | (cases hc; done)
              | (cases hc
                 simp only [qstep] at hs
                 split at hs
                 · rename_i c1 c2 e1 e2
                   simp only [Option.map_eq_some_iff, Prod.mk.injEq] at hs
                   obtain ⟨r, hr', rfl, rfl⟩ := hs
                   rw [e1] at r1
                   rw [e2] at r2
                   simp only [execOp]
                   first
                    | exact QR.ex I (by simpa using eqa_rep (P := P) (op := .eql) (neq := false) hks r1 r2 hr' (.inl ⟨rfl, rfl⟩) x y)
                    | exact QR.ex I (by simpa using eqa_rep (P := P) (op := .neq) (neq := true) hks r1 r2 hr' (.inr ⟨rfl, rfl⟩) x y)
                 · cases hs)
          · split at hc
            · split at hc <;> (cases hc; try cases hs)
            · cases hc
    · cases hc
  | unOp op t x =>
    simp only [cOp, Option.map_eq_some_iff] at hc
    obtain ⟨y, hy, rfl⟩ := hc
    simp only [qstep, Option.map_eq_some_iff, Prod.mk.injEq] at hs
    obtain ⟨c, hb, rfl, rfl⟩ := hs
    exact QR.ex I (un_rep (opd_rep hT hy) hb)
  | convert src dst x =>
    simp only [cOp] at hc
    split at hc
    · rename_i x' h1
      have r := opd_rep hT h1
      split at hc
      · rename_i k0 k e1 e2
        cases hc
        simp only [qstep] at hs
        split at hs
        · rename_i k1 n he
          cases hs
          rw [he] at r
          refine QR.of I (v := .int k (k.wrap n)) ?_ (by simp only [Rep])
          simp [rep_int r, convert, run_underlying (intT_spec e1), run_underlying (intT_spec e2), Conv.intToInt]
        · cases hs
      · split at hc
        · rename_i hd
          split at hc
          · rename_i hsrc
            cases hc
            simp only [qstep] at hs
            split at hs
            · rename_i n he
              cases hs
              rw [he] at r
              refine QR.of I (v := .string n) ?_ (by simp only [Rep])
              simp [rep_str r, convert, run_underlying (strT_spec hsrc), run_underlying (strT_spec hd)]
            · cases hs
          · split at hc
            · rename_i e he
              split at hc
              · rename_i hu8
                cases hc
                simp only [qstep, Option.map_eq_some_iff, Prod.mk.injEq, Option.bind_eq_some_iff] at hs
                obtain ⟨l, ⟨es, hel, hl⟩, rfl, rfl⟩ := hs
                exact QR.of I (cvb_rep I hr he hu8 hd r hel hl) (by simp only [Rep])
              · cases hc
            · cases hc
        · cases hc
    · cases hc
  | makeInterface t x =>
    simp only [cOp] at hc
    split at hc
    · cases hc
    · rename_i u x' hni hu hx
      cases hc
      simp only [qstep, Option.some.injEq, Prod.mk.injEq] at hs
      obtain ⟨rfl, rfl⟩ := hs
      refine QR.of I (v := .iface t (a.eval x)) ?_ (by simp only [Rep]; exact ⟨_, rfl, opd_rep hT hx⟩)
      simp only [Instr.makeInterface, Sem.run_bind, run_underlying hu, Result.andThen_ok]
      rfl
    · cases hc
  | makeFunc f first cap =>
    simp only [cOp] at hc
    split at hc
    · rename_i x y h1 h2
      cases hc
      simp only [qstep, Option.some.injEq, Prod.mk.injEq] at hs
      obtain ⟨rfl, rfl⟩ := hs
      refine QR.of I (v := .func f (first.map a.eval) (cap.map a.eval)) rfl ?_
      simp only [Rep]
      exact ⟨_, _, rfl, by simpa using opds_rep hT h1, by simpa using opds_rep hT h2⟩
    · cases hc
  | makeSlice t l c =>
    simp only [cOp] at hc
    split at hc
    · rename_i e he
      split at hc
      · rename_i i z l' c' hi hz h1 h2
        cases hc
        have r1 := opd_rep hT h1
        have r2 := opd_rep hT h2
        simp only [qstep] at hs
        split at hs
        · rename_i k1 n1 k2 n2 e1 e2
          split at hs
          · rename_i hcond
            obtain ⟨c1, c2, c3, c4, c5⟩ := hcond
            cases hs
            rw [e1] at r1
            rw [e2] at r2
            have := q_mks (P := P) (kl := k1) (kc := k2) I he hi hz c1 c2 c3 c4 (hnb _ rfl)
            simp only [execOp, rep_int r1, rep_int r2]
            exact this
          · cases hs
        · cases hs
      · cases hc
    · cases hc
  | slice t x lo hi mx =>
    cases mx with
    | some m => simp only [cOp] at hc; cases hc
    | none =>
      simp only [cOp] at hc
      split at hc
      · rename_i x' lo' hi' h1 h2 h3
        have r := opd_rep hT h1
        split at hc
        · rename_i hst
          cases hc
          simp only [qstep] at hs
          split at hs
          · rename_i b he
            split at hs
            · rename_i l h e1 e2
              split at hs
              · rename_i hcond
                obtain ⟨c1, c2, c3⟩ := hcond
                cases hs
                rw [he] at r
                simp only [execOp, rep_str r]
                refine QR.of I (sls_rep hst (l := l.toNat) (h := h.toNat) ?_ ?_ (by omega) (by omega)) (by simp only [Rep])
                · rcases idx_bound hT h2 e1 c1 with ⟨q1, q2, _⟩ | q
                  · exact .inl ⟨q1, by omega⟩
                  · exact .inr q
                · rcases idx_bound hT h3 e2 (by omega) with ⟨q1, q2, _⟩ | q
                  · exact .inl ⟨q1, by omega⟩
                  · exact .inr q
              · cases hs
            · cases hs
          · cases hs
        · split at hc
          · rename_i e he
            simp only [Option.map_eq_some_iff] at hc
            obtain ⟨sz, hsz, rfl⟩ := hc
            simp only [qstep] at hs
            split at hs
            · rename_i n hn
              split at hs
              · rename_i l h e1 e2
                split at hs
                · rename_i hcond
                  obtain ⟨c1, c2, c3, c4⟩ := hcond
                  simp only [Option.map_eq_some_iff, Prod.mk.injEq] at hs
                  obtain ⟨c, hcs, rfl, rfl⟩ := hs
                  have e3 : ((l.toNat : Nat) : Int) = l := Int.toNat_of_nonneg c1
                  have e4 : ((h.toNat : Nat) : Int) = h := Int.toNat_of_nonneg (by omega)
                  rw [← e3, ← e4] at hcs
                  have b1 := idx_bound hT h2 e1 c1
                  have b2 := idx_bound hT h3 e2 (by omega)
                  refine QR.ex I (slice_rep (whole := hi'.isNone) (l := l.toNat) (h := h.toNat) I hr he hsz r hn c4 ?_ ?_ ?_ (by omega) (by omega) hcs)
                  · rcases b1 with ⟨q1, q2, _⟩ | q
                    · exact .inl ⟨q1, by omega⟩
                    · exact .inr q
                  · rcases b2 with ⟨q1, q2, _⟩ | q
                    · exact .inl ⟨q1, by omega⟩
                    · exact .inr q
                  · intro hw
                    cases hi' with
                    | none => simp only [idxD, Option.some.injEq] at e2; omega
                    | some _ => cases hw
                · cases hs
              · cases hs
            · cases hs
          · cases hc
      · cases hc
  | fieldAddr t x i =>
    simp only [cOp] at hc
    split at hc
    · rename_i f x' h1 h2
      split at hc
      · rename_i n hn
        cases hc
        have r := opd_rep hT h2
        simp only [qstep, Option.map_eq_some_iff, Prod.mk.injEq] at hs
        obtain ⟨c, hcs, rfl, rfl⟩ := hs
        exact QR.ex I (fadr_rep h1 hn r hcs)
      · cases hc
    · cases hc
  | field t x i =>
    simp only [cOp] at hc
    split at hc
    · rename_i f x' h1 h2
      simp only [Option.map_eq_some_iff] at hc
      obtain ⟨n, hn, rfl⟩ := hc
      have r := opd_rep hT h2
      simp only [qstep] at hs
      split at hs
      · rename_i c he
        simp only [Option.map_eq_some_iff, Prod.mk.injEq] at hs
        obtain ⟨c1, hcs, rfl, rfl⟩ := hs
        rw [he] at r
        exact QR.ex I (fld_rep h1 hn r hcs)
      · cases hs
    · cases hc
  | indexAddr t x i =>
    simp only [cOp] at hc
    split at hc
    · rename_i x' i' h1 h2
      have r1 := opd_rep hT h1
      have r2 := opd_rep hT h2
      split at hc
      · rename_i e he
        simp only [Option.map_eq_some_iff] at hc
        obtain ⟨sz, hsz, rfl⟩ := hc
        simp only [qstep] at hs
        split at hs
        · rename_i k n e2
          simp only [Option.map_eq_some_iff, Prod.mk.injEq] at hs
          obtain ⟨c, hcs, rfl, rfl⟩ := hs
          rw [e2] at r2
          simp only [execOp, rep_int r2]
          exact QR.ex I (ias_rep (n := n) I hr he hsz r1 hcs)
        · cases hs
      · split at hc
        · rename_i m e he
          simp only [Option.map_eq_some_iff] at hc
          obtain ⟨sz, hsz, rfl⟩ := hc
          simp only [qstep] at hs
          split at hs
          · rename_i k n e2
            simp only [Option.map_eq_some_iff, Prod.mk.injEq] at hs
            obtain ⟨c, hcs, rfl, rfl⟩ := hs
            rw [e2] at r2
            simp only [execOp, rep_int r2]
            exact QR.ex I (iaa_rep (n := n) he hsz r1 hcs)
          · cases hs
        · cases hc
    · cases hc
  | index t x i =>
    simp only [cOp] at hc
    split at hc
    · rename_i x' i' h1 h2
      have r1 := opd_rep hT h1
      have r2 := opd_rep hT h2
      split at hc
      · rename_i hst
        cases hc
        simp only [qstep] at hs
        split at hs
        · rename_i b k n e1 e2
          split at hs
          · rename_i hcond
            cases hs
            rw [e1] at r1
            rw [e2] at r2
            simp only [execOp, rep_int r2, rep_str r1]
            exact QR.ex I (ixs_rep hst hcond.1 hcond.2)
          · cases hs
        · cases hs
      · split at hc
        · rename_i m e he
          split at hc
          · rename_i ag sz h3 h4
            cases hc
            simp only [qstep] at hs
            split at hs
            · rename_i c k n e1 e2
              split at hs
              · rename_i hcond
                simp only [Option.map_eq_some_iff, Prod.mk.injEq] at hs
                obtain ⟨c1, hcs, rfl, rfl⟩ := hs
                rw [e1] at r1
                rw [e2] at r2
                simp only [execOp, rep_int r2]
                exact QR.ex I (ixa_rep he h3 h4 r1 hcond.1 hcond.2 hcs)
              · cases hs
            · cases hs
          · cases hc
        · cases hc
    · cases hc
  | extract x i =>
    simp only [cOp, Option.map_eq_some_iff] at hc
    obtain ⟨y, hy, rfl⟩ := hc
    have r := opd_rep hT hy
    simp only [qstep] at hs
    split at hs
    · rename_i c he
      simp only [Option.map_eq_some_iff, Prod.mk.injEq] at hs
      obtain ⟨c1, hcs, rfl, rfl⟩ := hs
      rw [he] at r
      exact QR.ex I (ext_rep r hcs)
    · cases hs
  | call c =>
    simp only [cOp] at hc
    split at hc
    · rename_i xs hxs
      have rs := opds_rep hT hxs
      split at hc
      · rename_i hb
        split at hc
        · rename_i x t ht
          have hargs : ∃ y, c.args = #[y] ∧ cOpd y = some x := by
            obtain ⟨l1, l2⟩ := optAll_spec hxs
            have : c.args.toList.length = 1 := by rw [← l1]; rfl
            obtain ⟨y, hy⟩ := List.length_eq_one_iff.1 this
            refine ⟨y, by apply Array.ext'; simpa using hy, ?_⟩
            obtain ⟨b, hb1, hb2⟩ := l2 0 y (by rw [hy]; rfl)
            simp at hb1
            rw [hb2, hb1]
          obtain ⟨y, hy, hyx⟩ := hargs
          have hty : c.argTypes = #[t] := by apply Array.ext'; simpa using ht
          have r := opd_rep hT hyx
          have hrun : ∀ v, (Builtin.len_ #[t] ty #[a.eval y]).run P s.w = .ok v s.w → (execOp a.eval ⟨dst, .call c, ty, pos, after, guard⟩).run P s.w = .ok (.value v) s.w := by
            intro v hv
            simp only [execOp]
            rw [call_args P s.w .len hb ty, hy, hty]
            simp [builtin, hv]
          split at hc
          · rename_i hst
            cases hc
            simp only [qstep] at hs
            split at hs
            · rename_i b he
              cases hs
              rw [he] at r
              refine QR.pure I (hrun _ ?_) (v := .int .i64 b.size) (by simp only [Rep])
              rw [rep_str r]
              simp [Builtin.len_, run_underlying (strT_spec hst), goInt]
            · cases hs
          · split at hc
            · rename_i hsl
              cases hc
              simp only [qstep, Option.map_eq_some_iff, Prod.mk.injEq] at hs
              obtain ⟨n, hn, rfl, rfl⟩ := hs
              obtain ⟨e, he⟩ := Option.isSome_iff_exists.1 hsl
              refine QR.pure I (hrun _ ?_) (v := .int .i64 n) (by simp only [Rep])
              obtain ⟨a1, c1, hv, _, _⟩ := len_rep r hn
              rw [hv]
              simp [Builtin.len_, run_underlying (sliceT_spec he), goInt]
            · split at hc
              · rename_i n e he
                cases hc
                simp only [qstep, Option.some.injEq, Prod.mk.injEq, Opd.ev] at hs
                obtain ⟨rfl, rfl⟩ := hs
                refine QR.pure I (hrun _ ?_) (v := .int .i64 n) (by simp only [Rep])
                simp [Builtin.len_, run_underlying (arrT_spec he), goInt]
              · cases hc
        · cases hc
      · rename_i hb
        split at hc
        · rename_i x y
          cases hc
          simp only [qstep] at hs
          split at hs
          · rename_i k n k2 m e1 e2
            cases hs
            have hl := rs
            simp only [List.map_cons, List.map_nil, e1, e2, RepL] at hl
            obtain ⟨v1, r1, h1, hv1, v2, r2, h2, hv2, h3⟩ := hl
            subst h2 h3
            have hargs : c.args.map a.eval = #[v1, v2] := by apply Array.ext'; simpa using h1
            refine QR.pure I (v := .int k (if m < n then m else n)) ?_ (by simp only [Rep]; simp)
            simp only [execOp]
            rw [call_args P s.w .min hb ty, hargs]
            simp [builtin, Builtin.min_, rep_int hv1, rep_int hv2, Builtin.min2]
          · cases hs
        · cases hc
      · rename_i hb
        split at hc
        · rename_i x y
          cases hc
          simp only [qstep] at hs
          split at hs
          · rename_i k n k2 m e1 e2
            cases hs
            have hl := rs
            simp only [List.map_cons, List.map_nil, e1, e2, RepL] at hl
            obtain ⟨v1, r1, h1, hv1, v2, r2, h2, hv2, h3⟩ := hl
            subst h2 h3
            have hargs : c.args.map a.eval = #[v1, v2] := by apply Array.ext'; simpa using h1
            refine QR.pure I (v := .int k (if m > n then m else n)) ?_ (by simp only [Rep]; simp)
            simp only [execOp]
            rw [call_args P s.w .max hb ty, hargs]
            simp [builtin, Builtin.max_, rep_int hv1, rep_int hv2, Builtin.max2]
          · cases hs
        · cases hc
      all_goals (repeat' (split at hc)) <;> first
        | (cases hc; cases hs; done)
        | (cases hc; done)
        | (simp only [Option.map_eq_some_iff] at hc; obtain ⟨_, _, rfl⟩ := hc; cases hs; done)
    · cases hc
  | _ => simp only [cOp] at hc; cases hc
end
end Go.Proofs.Ytlagfebklcaaeaa

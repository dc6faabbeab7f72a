/- A value-level machine over the model, part 9: indexes, fields, strings, conversions; and the theorem on all quiet operations. -/
import Derived.Test.YtlagfebklcaaeaaA8
import Derived.Laws.Strings
namespace Go.Proofs.Ytlagfebklcaaeaa
set_option linter.all false
section
variable {P : Program} {Hf H : Heap} {s : St} {nid : Nat} {d : D} {nb : Option Blk} {T : Tm} {a : Act}

theorem ias_rep {t e : TypeId} {sz : Nat} {x : D} {v : Value} {k : IntKind} {n : Int} (I : Inv Hf s) (hr : Reads Hf H s) (ht : sliceT P t = some e) (hsz : szT P e = some sz) (hx : Rep s x v)
    (h : iasD H sz n x = some d) : ∃ r, (Instr.indexAt t v (.int k n)).run P s.w = .ok r s.w ∧ Rep s d r := by
  cases x with
  | sl z f es =>
    simp only [iasD, iaaD] at h
    split at h
    · rename_i hc
      obtain ⟨h0, h1, rfl⟩ := hc
      cases h
      simp only [Rep] at hx
      obtain ⟨a', cap, rfl, _, _, hx⟩ := hx
      have hne : es ≠ [] := by rintro rfl; simp at h1; omega
      rcases hx with hx | ⟨g, o, rfl, hrow⟩
      · exact absurd hx hne
      · have hlt : n.toNat < es.length := by omega
        refine ⟨.pointer (some ⟨g, o + n.toNat * z, none⟩), ?_, ?_⟩
        · simp [Instr.indexAt, asIntOf, run_underlying (sliceT_spec ht), szT_run hsz, h0, h1, add_none]
        · simp only [Rep, Nat.add_zero]
          refine ⟨g, o + n.toNat * z, rfl, ?_⟩
          have := (RepR_at hrow (List.getElem?_eq_getElem hlt)).2
          rwa [List.getD_eq_getElem?_getD, List.getElem?_eq_getElem hlt]
    · cases h
  | osl b o m f =>
    simp only [iasD, iaaD] at h
    split at h
    · rename_i hc
      obtain ⟨h0, h1, hok⟩ := hc
      cases h
      simp only [Rep] at hx
      obtain ⟨l, cap, hρ, hcap, _, hx⟩ := hx
      rcases hx with ⟨rfl, _, _⟩ | ⟨g, el, N, hg, rfl, _, _⟩
      · omega
      · have hz : l.sz = sz := by
          simp only [szOk] at hok
          split at hok
          · rename_i blk hb
            rw [← of_decide_eq_true hok]
            exact (I.rel b blk l (hr b blk (blkOf_some hb) (by simp [hρ])) hρ).size
          · cases hok
        refine ⟨.pointer (some ⟨g, l.off + o * l.sz + n.toNat * sz, none⟩), ?_, ?_⟩
        · simp [Instr.indexAt, asIntOf, run_underlying (sliceT_spec ht), szT_run hsz, h0, h1, add_none]
        · simp only [Rep]
          refine ⟨l, g, hρ, hg, ?_⟩
          rw [hz, show l.off + o * sz + n.toNat * sz = l.off + (o + n.toNat) * sz + 0 from by rw [Nat.add_mul]; omega]
    · cases h
  | _ => cases h
theorem iaa_rep {t e : TypeId} {m sz : Nat} {x : D} {v : Value} {k : IntKind} {n : Int} (ht : arrT P t = some (m, e)) (hsz : szT P e = some sz) (hx : Rep s x v)
    (h : iaaD m sz n x = some d) : ∃ r, (Instr.indexAt t v (.int k n)).run P s.w = .ok r s.w ∧ Rep s d r := by
  cases x with
  | ptr b e j =>
    simp only [iasD, iaaD] at h
    split at h
    · rename_i hc
      cases h
      simp only [Rep] at hx ⊢
      obtain ⟨l, c, h1, h2, rfl⟩ := hx
      refine ⟨.pointer (some ⟨c, l.off + _ * l.sz + (_ + n.toNat * sz), none⟩), ?_, l, c, h1, h2, rfl⟩
      simp [Instr.indexAt, asIntOf, run_underlying (arrT_spec ht), szT_run hsz, hc.1, hc.2, add_none, Instr.sureAddr, Nat.add_assoc]
    · cases h
  | iptr c j =>
    simp only [iasD, iaaD] at h
    split at h
    · rename_i hc
      cases h
      simp only [Rep] at hx ⊢
      obtain ⟨g, o, rfl, h2⟩ := hx
      refine ⟨.pointer (some ⟨g, o + (_ + n.toNat * sz), none⟩), ?_, g, o, rfl, h2⟩
      simp [Instr.indexAt, asIntOf, run_underlying (arrT_spec ht), szT_run hsz, hc.1, hc.2, add_none, Instr.sureAddr, Nat.add_assoc]
    · cases h
  | _ => cases h
theorem fadr_rep {t : TypeId} {f : Field} {i n : Nat} {x : D} {v : Value} (ht : fieldT P t i = some f) (hsz : szT P f.type = some (n + 1)) (hx : Rep s x v)
    (h : fadrD f.offset x = some d) : ∃ r, (Instr.fieldAt t v i).run P s.w = .ok r s.w ∧ Rep s d r := by
  obtain ⟨fs, hu, hf⟩ := fieldT_spec ht
  have hrun : ∀ g o, (Instr.fieldAt t (.pointer (some ⟨g, o, none⟩)) i).run P s.w = .ok (.pointer (some ⟨g, o + f.offset, none⟩)) s.w := fun g o => by
    simp [Instr.fieldAt, run_underlying hu, hf, Instr.sureAddr, fieldPlace, szT_run hsz, add_none]
  cases x with
  | ptr b e j =>
    cases h
    simp only [Rep] at hx ⊢
    obtain ⟨l, c, h1, h2, rfl⟩ := hx
    exact ⟨_, hrun _ _, l, c, h1, h2, by rw [Nat.add_assoc]⟩
  | iptr c j =>
    cases h
    simp only [Rep] at hx ⊢
    obtain ⟨g, o, rfl, h2⟩ := hx
    exact ⟨_, hrun _ _, g, o, by rw [Nat.add_assoc], h2⟩
  | _ => cases h
theorem fld_rep {t : TypeId} {f : Field} {i : Nat} {n : Option Nat} {c : List D} {v : Value} (ht : fieldT P t i = some f) (hsz : shapeT P f.type = some n) (hx : Rep s (.agg c) v) (h : takeD c f.offset n = some d) :
    ∃ r, (Instr.field t v i).run P s.w = .ok r s.w ∧ Rep s d r := by
  obtain ⟨fs, hu, hf⟩ := fieldT_spec ht
  simp only [Rep] at hx
  obtain ⟨vs, rfl, h1, hr⟩ := hx
  obtain ⟨r, h2, h3⟩ := part_rep (P := P) hsz hr h1 h
  exact ⟨r, by simp [Instr.field, run_underlying hu, hf, asAgg, h2], h3⟩
theorem ixa_rep {t e : TypeId} {m sz : Nat} {ag : Option Nat} {c : List D} {v : Value} {k : IntKind} {n : Int} (ht : arrT P t = some (m, e)) (hag : shapeT P e = some ag) (hsz : szT P e = some sz) (hx : Rep s (.agg c) v) (h0 : 0 ≤ n) (h1 : n < m)
    (h : takeD c (n.toNat * sz) (if ag.isSome then some sz else none) = some d) : ∃ r, (Instr.index t v (.int k n)).run P s.w = .ok r s.w ∧ Rep s d r := by
  simp only [Rep] at hx
  obtain ⟨vs, rfl, h2, hr⟩ := hx
  have hag' : shapeT P e = some (if ag.isSome then some sz else none) := by
    unfold shapeT at hag ⊢
    split at hag
    · rename_i hn
      rw [hsz] at hn
      cases hn
      cases hag
      rfl
    · cases hag
      rfl
    · cases hag
  obtain ⟨r, h3, h4⟩ := part_rep (P := P) hag' hr h2 h
  exact ⟨r, by simp [Instr.index, asIntOf, run_underlying (arrT_spec ht), szT_run hsz, h0, h1, h3], h4⟩
theorem toList_data (s : ByteArray) : s.toList = s.data.toList := Go.ByteArray.toList_eq s
theorem ixs_rep {t : TypeId} {b : ByteArray} {k : IntKind} {n : Int} (ht : strT P t = true) (h0 : 0 ≤ n) (h1 : n < b.size) :
    ∃ r, (Instr.index t (.string b) (.int k n)).run P s.w = .ok r s.w ∧ Rep s (.int .u8 ((b.toList.getD n.toNat 0).toNat : Nat)) r := by
  have hlt : n.toNat < b.size := by omega
  refine ⟨.int .u8 (b[n.toNat]'hlt).toNat, ?_, ?_⟩
  · simp [Instr.index, asIntOf, run_underlying (strT_spec ht), h0, hlt]
  · simp only [Rep, toList_data, List.getD_eq_getElem?_getD]
    have : b.data.toList[n.toNat]? = some b[n.toNat] := by
      rw [Array.getElem?_toList]
      exact Array.getElem?_eq_getElem hlt
    rw [this]
    rfl
theorem sls_rep {t : TypeId} {b : ByteArray} {l h : Nat} {lo hi : Option Value} (ht : strT P t = true) (hl : (lo = none ∧ l = 0) ∨ ∃ k, lo = some (.int k (l : Int))) (hh : (hi = none ∧ h = b.size) ∨ ∃ k, hi = some (.int k (h : Int))) (hlh : l ≤ h) (hhn : h ≤ b.size) :
    (Instr.sliceAt t (.string b) lo hi none).run P s.w = .ok (.string (b.extract l h)) s.w := by
  have hb := bound_run (P := P) (isS := false) hl hh hlh hhn s.w
  simp [Instr.sliceAt, run_underlying (strT_spec ht), Instr.slice, hb]
theorem bytes_list : ∀ {es : List (List D)} {l : List UInt8}, bytesD es = some l → ∃ ns : List Int, es = ns.map (fun n => [D.int .u8 n]) ∧ l = ns.map fun n => UInt8.ofNat n.toNat
  | [], l, h => by simp [bytesD] at h; subst h; exact ⟨[], rfl, rfl⟩
  | e :: es, l, h => by
    unfold bytesD at h
    split at h
    · rename_i he; cases he
    · rename_i n es' he
      simp only [List.cons.injEq] at he
      obtain ⟨rfl, rfl⟩ := he
      simp only [Option.map_eq_some_iff] at h
      obtain ⟨m, hm, rfl⟩ := h
      obtain ⟨ns, rfl, rfl⟩ := bytes_list hm
      exact ⟨n :: ns, rfl, rfl⟩
    · cases h
theorem cvb_rep {src dst e : TypeId} {x : D} {v : Value} {es : List (List D)} {l : List UInt8} (I : Inv Hf s) (hr : Reads Hf H s) (hs : sliceT P src = some e) (he : intT P e = some .u8) (hd : strT P dst = true) (hx : Rep s x v) (hel : elemsD H x = some es) (hl : bytesD es = some l) :
    (convert src dst v).run P s.w = .ok (.string ⟨l.toArray⟩) s.w := by
  obtain ⟨a, cap, rfl, h⟩ := elems_rep I hr hx hel
  obtain ⟨ns, rfl, rfl⟩ := bytes_list hl
  cases a with
  | none =>
    have hn : ns = [] := by
      rcases h with h | ⟨g, o, sz, h, _⟩
      · simpa using h
      · cases h
    subst hn
    exact run_convert_bytes_nil s.w src e (sliceT_spec hs) (intT_spec he) _ cap dst (strT_spec hd)
  | some ad =>
    by_cases hn : ns = []
    · subst hn
      obtain ⟨g, o, sp⟩ := ad
      rw [run_convert_bytes_string s.w src dst e _ _ cap (sliceT_spec hs) (intT_spec he) (strT_spec hd)]
      simp [Conv.bytesToString, loadCells, loadCellsFrom]
      rfl
    · rcases h with h | ⟨g, o, sz, h, hat⟩
      · simp at h; exact absurd h hn
      · cases h
        have hz : sz = 1 := by
          cases ns with
          | nil => exact absurd rfl hn
          | cons n ns => have := (hat 0 _ rfl).1; simpa using this.symm
        subst hz
        refine run_convert_bytes_arg s.w src e (sliceT_spec hs) (intT_spec he) g o _ cap ns (by simp) (fun i hi => ?_) dst (strT_spec hd)
        simp only [List.length_map] at hi
        obtain ⟨_, h2⟩ := hat i [.int .u8 ns[i]] (by simp [List.getElem?_eq_getElem hi])
        obtain ⟨u, hu, _, hr⟩ := h2 0 _ rfl
        simp only [Rep] at hr
        subst hr
        rw [Nat.mul_one, Nat.add_zero] at hu
        rw [hu, List.getD_eq_getElem?_getD, List.getElem?_eq_getElem hi]
        rfl
end
end Go.Proofs.Ytlagfebklcaaeaa

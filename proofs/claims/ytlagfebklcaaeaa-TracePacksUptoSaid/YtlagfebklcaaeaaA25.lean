/- A value-level machine over the model, part 25: steps of regions that draw their order and write; slices of slices; copies. -/
import Derived.Test.YtlagfebklcaaeaaA24
namespace Go.Proofs.Ytlagfebklcaaeaa
set_option linter.all false
section
variable {P : Program} {n : Nat} {H : Heap} {T : Tm} {K : Tm → Heap → Prop} {X : Ex → Tm → Heap → Prop} {l : List IQ} {dst : Option Nat} {op : IOp} {d : D} {bs : List (List Nat)} {nid : Nat} {acc : List TE}
theorem DRun.q (h : qstep op T H nid = some (d, none)) (k : DRun P bs l (put T dst d) H nid (acc ++ [⟨dst, op.looks, d, [], op.reads T, none⟩]) K) : DRun P bs (⟨dst, none, op⟩ :: l) T H nid acc K := by
  simp only [DRun]
  exact ⟨d, [], _, none, .q h, k⟩
theorem DRun.e {m : Nat × Option Blk} (h : ecore op T H nid = some (d, some m, none)) (k : DRun P bs l (put T dst d) (H.set m.1 m.2) nid (acc ++ [⟨dst, op.looks, d, [m], op.reads T, none⟩]) K) : DRun P bs (⟨dst, none, op⟩ :: l) T H nid acc K := by
  simp only [DRun]
  exact ⟨d, [m], _, none, .e h, k⟩
theorem DRun.nil (hp : pairsOk bs acc = true) (k : K T H) : DRun P bs [] T H nid acc K := ⟨hp, k⟩
theorem IW.draw {ops : List IQ} (h : DRun P bs ops T H H.length [] K) : IW P n (.dregion bs ops) T H K X := IW.dregion 0 (by simpa using h)
theorem qstep_slc {sz b o m : Nat} {f : Bool} {x : Opd} {lo hi : Option Opd} {i j : Nat} {blk : Blk} (hx : x.ev T = .osl b o m f) (hl : idxD T lo 0 = some (i : Int)) (hh : idxD T hi (m : Int) = some (j : Int)) (h1 : i ≤ j) (h2 : j ≤ m) (hb : blkOf H b = some blk) (hz : blk.sz = sz) :
    qstep (.slc sz x lo hi) T H nid = some (.osl b (o + i) (j - i) (f && hi.isNone), none) := by
  have hc : 0 ≤ (i : Int) ∧ (i : Int) ≤ j ∧ (j : Int) ≤ m ∧ szOk H sz (.osl b o m f) = true := ⟨by omega, by omega, by omega, by simp [szOk, hb, hz]⟩
  simp only [qstep, hx, lenD, hl, hh, if_pos hc, fullD, sliceD, Option.map_some, Int.toNat_natCast]
theorem ecore_cpy {sz b o m : Nat} {f : Bool} {x y : Opd} {e : TypeId} {es news : List (List D)} (hx : x.ev T = .osl b o m f) (hb : blkOf H b = some ⟨e, sz, es, 0⟩) (hm : o + m ≤ es.length) (hy : newsD H sz (y.ev T) = some news) :
    ecore (.cpy sz x y) T H nid = some (I (min news.length m : Nat), some (b, some ⟨e, sz, es.take o ++ news.take (min news.length m) ++ es.drop (o + min news.length m), 0⟩), none) := by
  have hc : o + m ≤ es.length ∧ 0 ≤ o ∧ True := ⟨hm, by omega, trivial⟩
  simp only [ecore, hy, hx, hb, Option.bind_some, if_pos hc]
theorem ecore_clr {sz b o m : Nat} {f : Bool} {x : Opd} {z : List D} {e : TypeId} {es : List (List D)} (hx : x.ev T = .osl b o m f) (hb : blkOf H b = some ⟨e, sz, es, 0⟩) (hm : o + m ≤ es.length) (hz : z.length = sz) :
    ecore (.clr sz z x) T H nid = some (.tup [], some (b, some ⟨e, sz, es.take o ++ List.replicate m z ++ es.drop (o + m), 0⟩), none) := by
  have hc : o + m ≤ es.length ∧ 0 ≤ o ∧ True ∧ z.length = sz := ⟨hm, by omega, trivial, hz⟩
  simp only [ecore, hx, hb, Option.bind_some, if_pos hc]
theorem estep_of {md : Option (Nat × Option Blk)} {nb : Option Blk} (h : ecore op T H H.length = some (d, md, nb)) : estep op T H = some (d, pushB (modH H md) nb) := by
  simp only [estep, h, Option.map_some]
theorem newsD_part {b sz o m : Nat} {f : Bool} {e : TypeId} {es : List (List D)} {ro : Nat} (hb : blkOf H b = some ⟨e, sz, es, ro⟩) (hn : o + m ≤ es.length) : newsD H sz (.osl b o m f) = some ((es.drop o).take m) := newsD_osl hb rfl hn
end
/-- x and a mask of low bits. -/
theorem and_mask {a : Int} {k : Nat} (h0 : 0 ≤ a) (h1 : a < 2 ^ 64) (hk : k ≤ 64) : ((BitVec.ofInt 64 a &&& BitVec.ofInt 64 (2 ^ k - 1)).toNat : Int) = a % 2 ^ k := by
  obtain ⟨m, rfl⟩ := Int.eq_ofNat_of_zero_le h0
  have e2 : (2 ^ k - 1 : Int) = ((2 ^ k - 1 : Nat) : Int) := by
    have : 0 < 2 ^ k := Nat.two_pow_pos k
    rw [Int.ofNat_sub (by omega), Int.natCast_pow]
    rfl
  have hm : m < 2 ^ 64 := by omega
  have hk2 : 2 ^ k - 1 < 2 ^ 64 := by
    have : 2 ^ k ≤ 2 ^ 64 := Nat.pow_le_pow_right (by omega) hk
    have : 0 < 2 ^ k := Nat.two_pow_pos k
    omega
  rw [e2, BitVec.ofInt_natCast, BitVec.ofInt_natCast, BitVec.toNat_and, BitVec.toNat_ofNat, BitVec.toNat_ofNat, Nat.mod_eq_of_lt hm, Nat.mod_eq_of_lt hk2, Nat.and_two_pow_sub_one_eq_mod]
  simp
theorem wu64 {a : Int} (h0 : 0 ≤ a) (h1 : a < 18446744073709551616) : IntKind.u64.wrap a = a := by
  have : IntKind.u64.wrap a = a % 18446744073709551616 := rfl
  rw [this]
  omega
theorem and32 {a : Int} (h0 : 0 ≤ a) (h1 : a < 4294967296) : ((BitVec.ofInt IntKind.u64.bits a &&& BitVec.ofInt IntKind.u64.bits 4294967295).toNat : Int) = a := by
  have := and_mask (k := 32) h0 (by omega) (by omega)
  rw [show IntKind.u64.bits = 64 from rfl, show (4294967295 : Int) = 2 ^ 32 - 1 from rfl, this]
  omega
theorem shr32 {a : Int} (h0 : 0 ≤ a) (h1 : a < 4294967296) : a.fdiv (2 ^ (min 32 IntKind.u64.bits)) = 0 := by
  rw [show min 32 IntKind.u64.bits = 32 from rfl, Int.fdiv_eq_ediv_of_nonneg _ (by decide)]
  omega
end Go.Proofs.Ytlagfebklcaaeaa

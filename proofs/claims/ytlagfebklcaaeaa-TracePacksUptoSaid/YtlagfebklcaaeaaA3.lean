/- A value-level machine over the model, part 3: the operations that write to no block that is there. -/
import Derived.Test.YtlagfebklcaaeaaA2
namespace Go.Proofs.Ytlagfebklcaaeaa
set_option linter.all false

inductive Opd where
  | t (i : Nat)
  | c (d : D)
  deriving Inhabited
abbrev Tm := Nat → D
def Opd.ev (T : Tm) : Opd → D
  | .t i => T i
  | .c d => d

/-- Kinds of cells that '==' compares. -/
inductive LK where
  | i | b | s
  deriving DecidableEq, Inhabited
inductive IOp where
  | mv (x : Opd)
  | pick (c a b : Opd)
  | new (t : TypeId) (z : List D)
  | box (t : TypeId) (sz : Nat) (x : Opd)
  | build (z : List D) (ps : List (Nat × Nat × Opd))
  | bsl (e : TypeId) (sz : Nat) (ps : List Opd)
  | load (sz : Option Nat) (a : Opd)
  | store (sz : Option Nat) (a x : Opd)
  | nilck (x : Opd)
  | bin (op : BinOp) (x y : Opd)
  | eqa (neq : Bool) (ks : List LK) (x y : Opd)
  | beq (neq : Bool) (x y : Opd)
  | un (op : UnOp) (x : Opd)
  | cvi (k : IntKind) (x : Opd)
  | cvs (x : Opd)
  | cvb (x : Opd)
  | mki (t : TypeId) (x : Opd)
  | mkf (f : Fn) (first cap : List Opd)
  | mks (e : TypeId) (sz bytes : Nat) (z : List D) (len cap : Opd)
  | sls (x : Opd) (lo hi : Option Opd)
  | slc (sz : Nat) (x : Opd) (lo hi : Option Opd)
  | fadr (off : Nat) (x : Opd)
  | fld (off : Nat) (sz : Option Nat) (x : Opd)
  | ias (sz : Nat) (x i : Opd)
  | iaa (n sz : Nat) (x i : Opd)
  | ixs (x i : Opd)
  | ixa (n sz : Nat) (ag : Bool) (x i : Opd)
  | ext (x : Opd) (i : Nat)
  | len (x : Opd)
  | lens (x : Opd)
  | mm (mx : Bool) (x y : Opd)
  | app (e : TypeId) (sz bytes : Nat) (x y : Opd)
  | cpy (sz : Nat) (x y : Opd)
  | call (f : FuncId) (xs : List Opd)
  | callv (g : Opd) (xs : List Opd)
  | inv (x : Opd) (m : String) (xs : List Opd)
  | isnil (neq : Bool) (x : Opd)
  | clr (sz : Nat) (z : List D) (x : Opd)
  | dead
  deriving Inhabited

/-- May this datum be the content of one cell? -/
def D.cellB : D → Bool
  | .agg _ | .tup _ => false
  | _ => true
/-- May this datum be stored in a variable? -/
def D.okB : D → Bool
  | .tup _ => false
  | _ => true
theorem D.okB_spec {d : D} (h : d.okB = true) : d.cellB = true ∨ ∃ c, d = .agg c := by
  cases d <;> first | exact .inl rfl | exact .inr ⟨_, rfl⟩ | cases h
def D.cells : D → List D
  | .agg cs => cs
  | d => [d]
theorem Rep.oneCell {s : St} {d : D} {v : Value} (h : Rep s d v) (hd : d.cellB = true) : v.oneCell' = true := by
  cases d <;> simp only [Rep] at h <;> first
    | (subst h; rfl)
    | (obtain ⟨_, _, _, _, rfl⟩ := h; rfl)
    | (obtain ⟨_, _, rfl, _⟩ := h; rfl)
    | (obtain ⟨_, rfl, _⟩ := h; rfl)
    | (simp [D.cellB] at hd; done)
    | skip
  obtain ⟨_, _, _, _, _, h⟩ := h
  rcases h with ⟨_, _, _, rfl⟩ | ⟨_, _, _, _, rfl, _⟩ <;> rfl
theorem Rep.cells {s : St} {d : D} {v : Value} (h : Rep s d v) (hd : d.cellB = true ∨ ∃ c, d = .agg c) :
    v.cells.toList.length = d.cells.length ∧ ∀ (j : Nat) (x : D), d.cells[j]? = some x → ∃ u, v.cells[j]? = some u ∧ u.oneCell' = true ∧ Rep s x u := by
  rcases hd with hd | ⟨c, rfl⟩
  · have h1 := h.oneCell hd
    have hv : v.cells = #[v] := by cases v <;> first | rfl | (simp [Value.oneCell'] at h1)
    have hc : d.cells = [d] := by cases d <;> first | rfl | (simp [D.cellB] at hd)
    rw [hv, hc]
    refine ⟨rfl, fun j x hj => ?_⟩
    cases j with
    | zero => simp at hj; subst hj; exact ⟨v, rfl, h1, h⟩
    | succ j => simp at hj
  · simp only [Rep] at h
    obtain ⟨vs, rfl, h0, h1⟩ := h
    refine ⟨by simpa [Value.cells, D.cells] using RepL_length h1, fun j x hj => ?_⟩
    obtain ⟨u, hu, hr⟩ := RepL_at h1 hj
    exact ⟨u, by simpa [Value.cells] using hu, h0 u (List.mem_of_getElem? hu), hr⟩

def optAll {α β : Type} (f : α → Option β) : List α → Option (List β)
  | [] => some []
  | a :: l => match f a, optAll f l with
    | some b, some m => some (b :: m)
    | _, _ => none

/-! ### What an operation gives -/
def fillD (cells : List D) : List (Nat × Nat × D) → Option (List D)
  | [] => some cells
  | (off, sz, d) :: rest => if d.cells.length = sz ∧ off + sz ≤ cells.length ∧ d.okB = true then fillD (cells.take off ++ d.cells ++ cells.drop (off + sz)) rest else none
def boxed (sz : Nat) (d : D) : Option (List D) := if d.cells.length = sz ∧ d.okB = true then some d.cells else none
def eqCell : LK → D → D → Option Bool
  | .i, .int j a, .int k b => if j = k then some (a == b) else none
  | .b, .bool a, .bool b => some (a == b)
  | .s, .str a, .str b => some (a.toList == b.toList)
  | _, _, _ => none
def eqCells : List LK → List D → List D → Option Bool
  | [], [], [] => some true
  | k :: ks, x :: xs, y :: ys => match eqCell k x y, eqCells ks xs ys with
    | some a, some b => some (a && b)
    | _, _ => none
  | _, _, _ => none
def binInt (op : BinOp) (k : IntKind) (a b : Int) : Option D :=
  match op with
  | .add => some (.int k (k.wrap (a + b)))
  | .sub => some (.int k (k.wrap (a - b)))
  | .mul => some (.int k (k.wrap (a * b)))
  | .quo => if b = 0 then none else some (.int k (k.wrap (a.tdiv b)))
  | .rem => if b = 0 then none else some (.int k (a.tmod b))
  | .and => some (.int k (k.wrap (BitVec.ofInt k.bits a &&& BitVec.ofInt k.bits b).toNat))
  | .or => some (.int k (k.wrap (BitVec.ofInt k.bits a ||| BitVec.ofInt k.bits b).toNat))
  | .xor => some (.int k (k.wrap (BitVec.ofInt k.bits a ^^^ BitVec.ofInt k.bits b).toNat))
  | .andNot => some (.int k (k.wrap (BitVec.ofInt k.bits a &&& ~~~ BitVec.ofInt k.bits b).toNat))
  | .eql => some (.bool (a == b))
  | .neq => some (.bool (a != b))
  | .lss => some (.bool (decide (a < b)))
  | .leq => some (.bool (decide (a ≤ b)))
  | .gtr => some (.bool (decide (a > b)))
  | .geq => some (.bool (decide (a ≥ b)))
  | _ => none
def binStr (op : BinOp) (a b : ByteArray) : Option D :=
  match op with
  | .add => if a.size + b.size ≤ 9223372036854775807 then some (.str (a ++ b)) else none
  | .eql => some (.bool (a.toList == b.toList))
  | .neq => some (.bool (!(a.toList == b.toList)))
  | .lss => some (.bool (Op.bytesLess a.toList b.toList))
  | .leq => some (.bool (Op.bytesLess a.toList b.toList || a.toList == b.toList))
  | .gtr => some (.bool (!(Op.bytesLess a.toList b.toList || a.toList == b.toList)))
  | .geq => some (.bool (!(Op.bytesLess a.toList b.toList)))
  | _ => none
def shiftD (op : BinOp) (k : IntKind) (a b : Int) : Option D :=
  if b < 0 then none else match op with
  | .shl => some (.int k (k.wrap (a * 2 ^ (min b.toNat k.bits))))
  | .shr => some (.int k (a.fdiv (2 ^ (min b.toNat k.bits))))
  | _ => none
def binD (op : BinOp) (x y : D) : Option D :=
  match op, x, y with
  | .shl, .int k a, .int _ b => shiftD .shl k a b
  | .shr, .int k a, .int _ b => shiftD .shr k a b
  | op, .int k a, .int k' b => if k = k' then binInt op k a b else none
  | op, .str a, .str b => binStr op a b
  | _, _, _ => none
def unD (op : UnOp) (x : D) : Option D :=
  match op, x with
  | .neg, .int k n => some (.int k (k.wrap (0 - n)))
  | .xor, .int k n => some (.int k (k.wrap (BitVec.ofInt k.bits (if k.signed then -1 else k.max) ^^^ BitVec.ofInt k.bits n).toNat))
  | .not, .bool b => some (.bool (!b))
  | _, _ => none
def takeD (cells : List D) (j : Nat) : Option Nat → Option D
  | none => cells[j]?
  | some n => if j + n ≤ cells.length then some (.agg ((cells.drop j).take n)) else none
def blkOf (H : Heap) (b : Nat) : Option Blk := (H[b]?).bind id
def loadD (H : Heap) (sz : Option Nat) : D → Option D
  | .ptr b e j => (blkOf H b).bind fun blk => (blk.es[e]?).bind fun c => takeD c j sz
  | .iptr c j => takeD c j sz
  | _ => none
/-- The elements that a slice has. -/
def elemsD (H : Heap) : D → Option (List (List D))
  | .sl _ _ es => some es
  | .osl b o n _ => (blkOf H b).bind fun blk => if o + n ≤ blk.es.length then some ((blk.es.drop o).take n) else none
  | _ => none
def bytesD : List (List D) → Option (List UInt8)
  | [] => some []
  | [.int .u8 n] :: es => (bytesD es).map (UInt8.ofNat n.toNat :: ·)
  | _ => none
def idxD (T : Tm) : Option Opd → Int → Option Int
  | none, d => some d
  | some x, _ => match x.ev T with
    | .int _ n => some n
    | _ => none
/-- The size of a slice's elements fits. -/
def szOk (H : Heap) (sz : Nat) : D → Bool
  | .sl z _ es => decide (z = sz) || es.isEmpty
  | .osl b _ n _ => match blkOf H b with
    | some blk => decide (blk.sz = sz)
    | none => false
  | _ => false
def sliceD (full whole : Bool) (lo hi : Int) : D → Option D
  | .sl z _ es => some (.sl z (full && whole) ((es.take hi.toNat).drop lo.toNat))
  | .osl b o _ _ => some (.osl b (o + lo.toNat) (hi.toNat - lo.toNat) (full && whole))
  | _ => none
def lenD : D → Option Nat
  | .sl _ _ es => some es.length
  | .osl _ _ n _ => some n
  | _ => none
def fullD : D → Bool
  | .sl _ f _ => f
  | .osl _ _ _ f => f
  | _ => false
def iasD (H : Heap) (sz : Nat) (n : Int) : D → Option D
  | .sl z _ es => if 0 ≤ n ∧ n < es.length ∧ z = sz then some (.iptr (es.getD n.toNat []) 0) else none
  | .osl b o m f => if 0 ≤ n ∧ n < m ∧ szOk H sz (.osl b o m f) = true then some (.ptr b (o + n.toNat) 0) else none
  | _ => none
def iaaD (m sz : Nat) (n : Int) : D → Option D
  | .ptr b e j => if 0 ≤ n ∧ n < m then some (.ptr b e (j + n.toNat * sz)) else none
  | .iptr c j => if 0 ≤ n ∧ n < m then some (.iptr c (j + n.toNat * sz)) else none
  | _ => none
def fadrD (off : Nat) : D → Option D
  | .ptr b e j => some (.ptr b e (j + off))
  | .iptr c j => some (.iptr c (j + off))
  | _ => none
/-- The value of an operation that writes to no block that is there, and the block that it makes, which gets the name nid. -/
def qstep (op : IOp) (T : Tm) (H : Heap) (nid : Nat) : Option (D × Option Blk) :=
  match op with
  | .mv x => some (x.ev T, none)
  | .pick c a b => match c.ev T with
    | .bool t => match a.ev T, b.ev T with
      | .bool x, .bool y => some (.bool (if t then x else y), none)
      | x, y => some (if t then x else y, none)
    | _ => none
  | .new t z => some (.ptr nid 0 0, some ⟨t, z.length, [z], 0⟩)
  | .box t sz x => (boxed sz (x.ev T)).map fun c => (.ptr nid 0 0, some ⟨t, sz, [c], 0⟩)
  | .build z ps => (fillD z (ps.map fun p => (p.1, p.2.1, p.2.2.ev T))).map fun c => (.agg c, none)
  | .bsl e sz ps => (optAll (fun x => boxed sz (x.ev T)) ps).map fun es => (.osl nid 0 es.length true, some ⟨e, sz, es, 0⟩)
  | .load sz a => (loadD H sz (a.ev T)).map (·, none)
  | .nilck x => match x.ev T with
    | .ptr b e j => some (.ptr b e j, none)
    | .iptr c j => some (.iptr c j, none)
    | _ => none
  | .bin op x y => (binD op (x.ev T) (y.ev T)).map (·, none)
  | .eqa neq ks x y => match x.ev T, y.ev T with
    | .agg a, .agg b => (eqCells ks a b).map fun r => (.bool (if neq then !r else r), none)
    | _, _ => none
  | .beq neq x y => match x.ev T, y.ev T with
    | .bool a, .bool b => some (.bool (if neq then !(a == b) else a == b), none)
    | _, _ => none
  | .un op x => (unD op (x.ev T)).map (·, none)
  | .cvi k x => match x.ev T with
    | .int _ n => some (.int k (k.wrap n), none)
    | _ => none
  | .cvs x => match x.ev T with
    | .str s => some (.str s, none)
    | _ => none
  | .cvb x => ((elemsD H (x.ev T)).bind bytesD).map fun l => (.str ⟨l.toArray⟩, none)
  | .mki t x => some (.iface t (x.ev T), none)
  | .mkf f first cap => some (.fn f (first.map (·.ev T)) (cap.map (·.ev T)), none)
  | .mks e sz bytes z len cap => match len.ev T, cap.ev T with
    | .int _ l, .int _ c => if 0 ≤ l ∧ l ≤ c ∧ (bytes : Int) * c ≤ 281474976710656 ∧ c ≤ 9223372036854775807 ∧ z.length = sz then some (.osl nid 0 l.toNat (decide (l = c)), some ⟨e, sz, List.replicate l.toNat z, 0⟩) else none
    | _, _ => none
  | .sls x lo hi => match x.ev T with
    | .str s => match idxD T lo 0, idxD T hi s.size with
      | some l, some h => if 0 ≤ l ∧ l ≤ h ∧ h ≤ s.size then some (.str (s.extract l.toNat h.toNat), none) else none
      | _, _ => none
    | _ => none
  | .slc sz x lo hi => match lenD (x.ev T) with
    | some n => match idxD T lo 0, idxD T hi n with
      | some l, some h => if 0 ≤ l ∧ l ≤ h ∧ h ≤ n ∧ szOk H sz (x.ev T) = true then (sliceD (fullD (x.ev T)) hi.isNone l h (x.ev T)).map (·, none) else none
      | _, _ => none
    | none => none
  | .fadr off x => (fadrD off (x.ev T)).map (·, none)
  | .fld off sz x => match x.ev T with
    | .agg c => (takeD c off sz).map (·, none)
    | _ => none
  | .ias sz x i => match i.ev T with
    | .int _ n => (iasD H sz n (x.ev T)).map (·, none)
    | _ => none
  | .iaa m sz x i => match i.ev T with
    | .int _ n => (iaaD m sz n (x.ev T)).map (·, none)
    | _ => none
  | .ixs x i => match x.ev T, i.ev T with
    | .str s, .int _ n => if 0 ≤ n ∧ n < s.size then some (.int .u8 ((s.toList.getD n.toNat 0).toNat : Nat), none) else none
    | _, _ => none
  | .ixa m sz ag x i => match x.ev T, i.ev T with
    | .agg c, .int _ n => if 0 ≤ n ∧ n < m then (takeD c (n.toNat * sz) (if ag then some sz else none)).map (·, none) else none
    | _, _ => none
  | .ext x i => match x.ev T with
    | .tup c => (c[i]?).map (·, none)
    | _ => none
  | .len x => (lenD (x.ev T)).map fun (n : Nat) => (.int .i64 (n : Int), none)
  | .lens x => match x.ev T with
    | .str s => some (.int .i64 s.size, none)
    | _ => none
  | .mm mx x y => match x.ev T, y.ev T with
    | .int k a, .int _ b => some (.int k (if mx then (if b > a then b else a) else (if b < a then b else a)), none)
    | _, _ => none
  | _ => none
end Go.Proofs.Ytlagfebklcaaeaa

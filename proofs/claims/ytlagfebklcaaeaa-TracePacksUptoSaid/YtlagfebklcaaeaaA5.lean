/- A value-level machine over the model, part 5: the compiler of operations and its soundness. -/
import Derived.Test.YtlagfebklcaaeaaA4
import Derived.Laws.BytesArg
import Derived.Laws.BytesString
namespace Go.Proofs.Ytlagfebklcaaeaa
set_option linter.all false

def intT (P : Program) (t : TypeId) : Option IntKind := match P.underlying t with
  | some (.int k) => some k
  | _ => none
def fieldT (P : Program) (t : TypeId) (i : Nat) : Option Field := match P.underlying t with
  | some (.struct fs) => fs[i]?
  | _ => none
def sliceT (P : Program) (t : TypeId) : Option TypeId := match P.underlying t with
  | some (.slice e) => some e
  | _ => none
def arrT (P : Program) (t : TypeId) : Option (Nat × TypeId) := match P.underlying t with
  | some (.array n e) => some (n, e)
  | _ => none
def strT (P : Program) (t : TypeId) : Bool := match P.underlying t with
  | some .string => true
  | _ => false
theorem intT_spec {P : Program} {t : TypeId} {k : IntKind} (h : intT P t = some k) : P.underlying t = some (.int k) := by
  unfold intT at h; split at h <;> first | (cases h; assumption) | cases h
theorem sliceT_spec {P : Program} {t e : TypeId} (h : sliceT P t = some e) : P.underlying t = some (.slice e) := by
  unfold sliceT at h; split at h <;> first | (cases h; assumption) | cases h
theorem arrT_spec {P : Program} {t e : TypeId} {n : Nat} (h : arrT P t = some (n, e)) : P.underlying t = some (.array n e) := by
  unfold arrT at h; split at h <;> first | (cases h; assumption) | cases h
theorem strT_spec {P : Program} {t : TypeId} (h : strT P t = true) : P.underlying t = some .string := by
  unfold strT at h; split at h <;> first | assumption | cases h
theorem fieldT_spec {P : Program} {t : TypeId} {i : Nat} {f : Field} (h : fieldT P t i = some f) : ∃ fs, P.underlying t = some (.struct fs) ∧ fs[i]? = some f := by
  unfold fieldT at h; split at h
  · exact ⟨_, by assumption, h⟩
  · cases h
/-- The places of the parts of a composite. -/
def placesT (P : Program) (t : TypeId) : Option (Nat → Option (Nat × Nat)) := match P.underlying t with
  | some (.struct fs) => match optAll (fun f : Field => (szT P f.type).map fun n => (f.offset, n)) fs.toList with
    | some l => some (l[·]?)
    | none => none
  | some (.array _ e) => (szT P e).map fun n => fun i => some (i * n, n)
  | _ => none
/-- Types whose values are equal where their cells are. -/
def kindEq (P : Program) (t : TypeId) : Bool := match P.underlying t with
  | some (.int _) | some .string => true
  | _ => false
def boolT (P : Program) (t : TypeId) : Bool := match P.underlying t with
  | some .bool => true
  | _ => false
theorem boolT_spec {P : Program} {t : TypeId} (h : boolT P t = true) : P.underlying t = some .bool := by
  unfold boolT at h; split at h <;> first | assumption | cases h

/-- The kinds of the cells of a type that '==' compares cell by cell. -/
def leafFs (lt : TypeId → Option (List LK)) : List Field → List LK → Option (List LK)
  | [], acc => some acc
  | f :: fs, acc => if f.name == "_" || f.offset != acc.length then none else match lt f.type with
    | some l => leafFs lt fs (acc ++ l)
    | none => none
def leafT (P : Program) : Nat → TypeId → Option (List LK)
  | 0, _ => none
  | d + 1, t => match P.underlying t with
    | some .bool => if shapeT P t = some none then some [.b] else none
    | some (.int _) => if shapeT P t = some none then some [.i] else none
    | some .string => if shapeT P t = some none then some [.s] else none
    | some (.struct fs) => if P.stoodInHeld t then none else match leafFs (leafT P d) fs.toList [] with
      | some l => if shapeT P t = some (some l.length) then some l else none
      | none => none
    | some (.array n e) => match leafT P d e with
      | some l => if szT P e = some l.length ∧ shapeT P t = some (some (n * l.length)) then some (List.replicate n l).flatten else none
      | none => none
    | _ => none
def aggEq (P : Program) (t : TypeId) : Option (List LK) := match aggT P t with
  | some true => if P.eqGuardType P.depth t then none else leafT P 8 t
  | _ => none
/-- Is a slice of the type t held against nil? -/
def nilSl (P : Program) (t : TypeId) (y : Operand) : Bool := (sliceT P t).isSome && match y with
  | .const (.slice none _ _) => true
  | _ => false
def cOp (P : Program) (o : Oper) : Option IOp :=
  match o.op with
  | .move x | .assign x => (cOpd x).map .mv
  | .pick c a b => match cOpd c, cOpd a, cOpd b with
    | some c, some a, some b => some (.pick c a b)
    | _, _, _ => none
  | .alloc t => (zeroT P t).map (.new t ·)
  | .box t x => match szT P t, cOpd x with
    | some n, some x => some (.box t n x)
    | _, _ => none
  | .build t ps => match zeroT P t, placesT P t, optAll (fun p : Nat × Operand => cOpd p.2) ps.toList with
    | some z, some pl, some xs => match optAll (fun p : (Nat × Operand) × Opd => (pl p.1.1).map fun q => (q.1, q.2, p.2)) (ps.toList.zip xs) with
      | some l => some (.build z l)
      | none => none
    | _, _, _ => none
  | .buildSlice t n ps => match sliceT P t with
    | some e => match szT P e, optAll (fun p : Nat × Operand => cOpd p.2) ps.toList with
      | some sz, some xs => if ps.toList.map (·.1) = List.range n ∧ n * sz ≤ 2 ^ 24 ∧ (n * sz = 0 ∨ (zeroT P e).isSome) then some (.bsl e sz xs) else none
      | _, _ => none
    | none => none
  | .load t a => match shapeT P t, cOpd a with
    | some n, some a => some (.load n a)
    | _, _ => none
  | .store t a x => match shapeT P t, cOpd a, cOpd x with
    | some n, some a, some x => some (.store n a x)
    | _, _, _ => none
  | .nilCheck x => (cOpd x).map .nilck
  | .binOp op t x y0 _ => match cOpd x, cOpd y0 with
    | some x, some y => if kindEq P t then some (.bin op x y) else if boolT P t then (match op with | .eql => some (.beq false x y) | .neq => some (.beq true x y) | _ => none) else match aggEq P t with
      | some ks => (match op with | .eql => some (.eqa false ks x y) | .neq => some (.eqa true ks x y) | _ => none)
      | none => if nilSl P t y0 then (match op with | .eql => some (.isnil false x) | .neq => some (.isnil true x) | _ => none) else none
    | _, _ => none
  | .unOp op _ x => (cOpd x).map (.un op)
  | .convert src dst x => match cOpd x with
    | some x => match intT P src, intT P dst with
      | some _, some k => some (.cvi k x)
      | _, _ => if strT P dst then (if strT P src then some (.cvs x) else match sliceT P src with
        | some e => if intT P e = some .u8 then some (.cvb x) else none
        | none => none) else none
    | none => none
  | .makeInterface t x => match P.underlying t, cOpd x with
    | some (.interface _), _ => none
    | some _, some x => some (.mki t x)
    | _, _ => none
  | .makeFunc f first cap => match optAll cOpd first.toList, optAll cOpd cap.toList with
    | some a, some b => some (.mkf f a b)
    | _, _ => none
  | .makeSlice t l c => match sliceT P t with
    | some e => match P.info? e, zeroT P e, cOpd l, cOpd c with
      | some i, some z, some l, some c => some (.mks e i.size i.bytes z l c)
      | _, _, _, _ => none
    | none => none
  | .slice t x lo hi none =>
    let lo' : Option (Option Opd) := match lo with | none => some none | some a => (cOpd a).map some
    let hi' : Option (Option Opd) := match hi with | none => some none | some a => (cOpd a).map some
    match cOpd x, lo', hi' with
    | some x, some lo, some hi => if strT P t then some (.sls x lo hi) else match sliceT P t with
      | some e => (szT P e).map fun sz => .slc sz x lo hi
      | none => none
    | _, _, _ => none
  | .fieldAddr t x i => match fieldT P t i, cOpd x with
    | some f, some x => match szT P f.type with
      | some (_ + 1) => some (.fadr f.offset x)
      | _ => none
    | _, _ => none
  | .field t x i => match fieldT P t i, cOpd x with
    | some f, some x => (shapeT P f.type).map fun n => .fld f.offset n x
    | _, _ => none
  | .indexAddr t x i => match cOpd x, cOpd i with
    | some x, some i => match sliceT P t with
      | some e => (szT P e).map fun sz => .ias sz x i
      | none => match arrT P t with
        | some (n, e) => (szT P e).map fun sz => .iaa n sz x i
        | none => none
    | _, _ => none
  | .index t x i => match cOpd x, cOpd i with
    | some x, some i => if strT P t then some (.ixs x i) else match arrT P t with
      | some (n, e) => match shapeT P e, szT P e with
        | some ag, some sz => some (.ixa n sz ag.isSome x i)
        | _, _ => none
      | none => none
    | _, _ => none
  | .extract x i => (cOpd x).map (.ext · i)
  | .call c => match optAll cOpd c.args.toList with
    | some xs => match c.callee with
      | .builtin .len => match xs, c.argTypes.toList with
        | [x], [t] => if strT P t then some (.lens x) else if (sliceT P t).isSome then some (.len x) else match arrT P t with
          | some (n, _) => some (.mv (.c (.int .i64 n)))
          | none => none
        | _, _ => none
      | .builtin .min => match xs with
        | [x, y] => some (.mm false x y)
        | _ => none
      | .builtin .max => match xs with
        | [x, y] => some (.mm true x y)
        | _ => none
      | .builtin .append => match xs, c.argTypes.toList with
        | [x, y], [t, u] => match sliceT P t, sliceT P u with
          | some e, some e' => match P.info? e with
            | some i => if e = e' ∧ (zeroT P e).isSome then some (.app e i.size i.bytes x y) else none
            | none => none
          | _, _ => none
        | _, _ => none
      | .builtin .copy => match xs, c.argTypes.toList with
        | [x, y], [t, u] => match sliceT P t, sliceT P u with
          | some e, some e' => if e = e' then (szT P e).map fun sz => .cpy sz x y else none
          | _, _ => none
        | _, _ => none
      | .builtin .clear => match xs, c.argTypes.toList with
        | [x], [t] => match sliceT P t with
          | some e => match zeroT P e with
            | some z => some (.clr z.length z x)
            | none => none
          | none => none
        | _, _ => none
      | .builtin _ => none
      | .value (.func f) => some (.call f xs)
      | .value g => (cOpd g).map fun g => .callv g xs
      | .invoke r m => (cOpd r).map fun r => .inv r m xs
    | none => none
  | _ => none
end Go.Proofs.Ytlagfebklcaaeaa

/- A value-level machine over the model, part 18: regions that draw their order. One run in the text's order serves, where operations that may change places do not touch each other. -/
import Derived.Test.YtlagfebklcaaeaaA17
namespace Go.Proofs.Ytlagfebklcaaeaa
set_option linter.all false

/-! ### Operands -/
def oo (x : Option Opd) : List Opd := x.toList
def IOp.opds : IOp → List Opd
  | .mv x | .box _ _ x | .load _ x | .nilck x | .un _ x | .cvi _ x | .cvs x | .cvb x | .mki _ x | .fadr _ x | .fld _ _ x | .ext x _ | .len x | .lens x | .isnil _ x | .clr _ _ x => [x]
  | .dead => []
  | .pick a b c => [a, b, c]
  | .new _ _ => []
  | .build _ ps => ps.map (·.2.2)
  | .bsl _ _ ps => ps
  | .store _ x y | .bin _ x y | .eqa _ _ x y | .beq _ x y | .mks _ _ _ _ x y | .ias _ x y | .iaa _ _ x y | .ixs x y | .ixa _ _ _ x y | .mm _ x y | .app _ _ _ x y | .cpy _ x y => [x, y]
  | .mkf _ a b => a ++ b
  | .sls x lo hi | .slc _ x lo hi => x :: (oo lo ++ oo hi)
  | .call _ xs => xs
  | .callv g xs => g :: xs
  | .inv x _ xs => x :: xs
def Opd.tmp : Opd → List Nat
  | .t i => [i]
  | .c _ => []
/-- The slots that an operation looks at. -/
def IOp.looks (op : IOp) : List Nat := op.opds.flatMap Opd.tmp
theorem ev_congr {T T' : Tm} {l : List Opd} (h : ∀ i ∈ l.flatMap Opd.tmp, T i = T' i) : ∀ x ∈ l, x.ev T = x.ev T' := by
  intro x hx
  cases x with
  | t i => exact h i (List.mem_flatMap.2 ⟨_, hx, by simp [Opd.tmp]⟩)
  | c d => rfl
/-- The own block that a datum points into. -/
def D.ref : D → List Nat
  | .ptr b _ _ => [b]
  | .osl b _ _ _ => [b]
  | _ => []
/-- The blocks that an operation reads. -/
def IOp.reads (op : IOp) (T : Tm) : List Nat := match op with
  | .load _ x | .cvb x | .slc _ x _ _ | .ias _ x _ => (x.ev T).ref
  | .store _ x _ | .clr _ _ x => (x.ev T).ref
  | .app _ _ _ x y | .cpy _ x y => (x.ev T).ref ++ (y.ev T).ref
  | _ => []
section
variable {T T' : Tm} {H H' : Heap} {nid : Nat}
theorem loadD_loc {sz : Option Nat} {d : D} (h : ∀ b ∈ d.ref, blkOf H b = blkOf H' b) : loadD H sz d = loadD H' sz d := by
  cases d <;> simp only [loadD]
  rename_i b e j
  rw [h b (by simp [D.ref])]
theorem elemsD_loc {d : D} (h : ∀ b ∈ d.ref, blkOf H b = blkOf H' b) : elemsD H d = elemsD H' d := by
  cases d <;> simp only [elemsD]
  rename_i b o n f
  rw [h b (by simp [D.ref])]
theorem szOk_loc {sz : Nat} {d : D} (h : ∀ b ∈ d.ref, blkOf H b = blkOf H' b) : szOk H sz d = szOk H' sz d := by
  cases d <;> simp only [szOk]
  rename_i b o n f
  rw [h b (by simp [D.ref])]
theorem newsD_loc {sz : Nat} {d : D} (h : ∀ b ∈ d.ref, blkOf H b = blkOf H' b) : newsD H sz d = newsD H' sz d := by
  unfold newsD
  rw [szOk_loc h, elemsD_loc h]
theorem iasD_loc {sz : Nat} {n : Int} {d : D} (h : ∀ b ∈ d.ref, blkOf H b = blkOf H' b) : iasD H sz n d = iasD H' sz n d := by
  cases d <;> simp only [iasD]
  rw [szOk_loc (by simpa [D.ref] using h)]
theorem idxD_congr {o : Option Opd} {d : Int} (h : ∀ x ∈ oo o, x.ev T = x.ev T') : idxD T o d = idxD T' o d := by
  cases o with
  | none => rfl
  | some x => simp only [idxD, h x (by simp [oo])]
theorem optAll_congr {α β : Type} {f g : α → Option β} : ∀ {l : List α}, (∀ x ∈ l, f x = g x) → optAll f l = optAll g l
  | [], _ => rfl
  | a :: l, h => by
    have h2 : optAll f l = optAll g l := optAll_congr fun x hx => h x (List.mem_cons_of_mem _ hx)
    simp only [optAll, h a (by simp), h2]
/-- What an operation gives hangs on its operands, and on the blocks that it reads. -/
theorem qstep_loc {op : IOp} (hT : ∀ i ∈ op.looks, T i = T' i) (hH : ∀ b ∈ op.reads T, blkOf H b = blkOf H' b) : qstep op T H nid = qstep op T' H' nid := by
  have he := ev_congr hT
  cases op <;> simp only [IOp.opds] at he <;> simp only [IOp.reads] at hH <;> simp only [qstep] <;> (try rw [he _ (by simp)] at hH) <;>
    first
    | rfl
    | (rw [he _ (List.mem_singleton.2 rfl)]; done)
    | (rw [he _ (List.mem_cons_self), he _ (List.mem_cons_of_mem _ (List.mem_singleton.2 rfl))]; done)
    | (rw [he _ (List.mem_cons_self), he _ (List.mem_cons_of_mem _ List.mem_cons_self), he _ (List.mem_cons_of_mem _ (List.mem_cons_of_mem _ (List.mem_singleton.2 rfl)))]; done)
    | (rw [he _ (List.mem_singleton.2 rfl), loadD_loc hH]; done)
    | (rw [he _ (List.mem_singleton.2 rfl), elemsD_loc hH]; done)
    | (rw [he _ (List.mem_cons_self), he _ (List.mem_cons_of_mem _ (List.mem_singleton.2 rfl)), show (fun n => iasD H _ n _) = (fun n => iasD H' _ n _) from funext fun n => iasD_loc hH]; done)
    | skip
  case build z ps =>
    have : (ps.map fun p => (p.1, p.2.1, p.2.2.ev T)) = (ps.map fun p => (p.1, p.2.1, p.2.2.ev T')) := List.map_congr_left fun p hp => by rw [he p.2.2 (List.mem_map.2 ⟨p, hp, rfl⟩)]
    rw [this]
  case bsl e sz ps =>
    have : optAll (fun x => boxed sz (x.ev T)) ps = optAll (fun x => boxed sz (x.ev T')) ps := optAll_congr fun x hx => by rw [he x hx]
    rw [this]
  case mkf f a b =>
    have h1 : a.map (·.ev T) = a.map (·.ev T') := List.map_congr_left fun x hx => he x (by simp [hx])
    have h2 : b.map (·.ev T) = b.map (·.ev T') := List.map_congr_left fun x hx => he x (by simp [hx])
    rw [h1, h2]
  case sls x lo hi =>
    rw [he x (by simp), idxD_congr (o := lo) (fun y hy => he y (by simp [hy]))]
    simp only [idxD_congr (T := T) (T' := T') (o := hi) (fun y hy => he y (by simp [hy]))]
  case slc sz x lo hi =>
    rw [he x (by simp), idxD_congr (o := lo) (fun y hy => he y (by simp [hy]))]
    simp only [idxD_congr (T := T) (T' := T') (o := hi) (fun y hy => he y (by simp [hy])), szOk_loc hH]
  case ias sz x i =>
    rw [he x (by simp), he i (by simp)]
    simp only [iasD_loc hH]
theorem ecore_loc {op : IOp} (hT : ∀ i ∈ op.looks, T i = T' i) (hH : ∀ b ∈ op.reads T, blkOf H b = blkOf H' b) : ecore op T H nid = ecore op T' H' nid := by
  have he := ev_congr hT
  cases op <;> simp only [IOp.opds] at he <;> simp only [IOp.reads] at hH <;> simp only [ecore]
  case store sz x y =>
    rw [he x (by simp)] at hH
    rw [he x (by simp), he y (by simp)]
    cases hx : x.ev T' <;> simp only
    rename_i b e j
    rw [hx] at hH
    rw [hH b (by simp [D.ref])]
  case app e sz bytes x y =>
    rw [he x (by simp), he y (by simp)] at hH
    rw [he x (by simp), he y (by simp), newsD_loc (fun b hb => hH b (by simp [hb]))]
    cases hx : x.ev T' <;> simp only
    rename_i b o n f
    rw [hx] at hH
    rw [hH b (by simp [D.ref])]
  case cpy sz x y =>
    rw [he x (by simp), he y (by simp)] at hH
    rw [he x (by simp), he y (by simp), newsD_loc (fun b hb => hH b (by simp [hb]))]
    cases hx : x.ev T' <;> simp only
    rename_i b o n f
    rw [hx] at hH
    rw [hH b (by simp [D.ref])]
  case clr sz z x =>
    rw [he x (by simp)] at hH
    rw [he x (by simp)]
    cases hx : x.ev T' <;> simp only
    rename_i b o n f
    rw [hx] at hH
    rw [hH b (by simp [D.ref])]
end
end Go.Proofs.Ytlagfebklcaaeaa

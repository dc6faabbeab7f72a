/- trace.Last: the byte that was last read or written at an address. -/
import Derived.RangeFuncNested
import Derived.RangeFuncBound
import Derived.RangeFuncBox
import Derived.RangeFuncLeaves
import Derived.Shelf.Abstract
import Derived.Shelf.RegionOpen
import Derived.WalkKit
import Derived.OwnWalkIn
import Derived.TacticsInMore
import Derived.LoopNIn
import Derived.LoopIn
import Derived.Test.YtlagfebklcaaeaaProg
namespace Go.Proofs.Ytlagfebklcaaeaa
set_option linter.all false
open Go.RowKit Go.Shelf
attribute [local go_sem] Oper.semAt_some
/-- What has come when k rounds are over: f 0, .., f (k - 1). -/
def upto {α : Type} (f : Nat → α) (k : Nat) : List α := (List.range k).map f
theorem upto_succ {α : Type} (f : Nat → α) (k : Nat) : upto f (k + 1) = upto f k ++ [f k] := by simp [upto, List.range_succ]
theorem upto_length {α : Type} (f : Nat → α) (k : Nat) : (upto f k).length = k := by simp [upto]
/-- A thing on the bus, as it comes. -/
abbrev BusT := Int × Int × Int
abbrev busV (x : BusT) : Value := .agg #[.int .i64 x.1, .int .i64 x.2.1, .int .i64 x.2.2]
/-- What a round keeps: all below n, and the box B. -/
def KpB (n B : Nat) (W W' : World) : Prop := Below n W W' ∧ ∀ t v, Boxed W B t v → Boxed W' B t v
theorem kpB_t {n B : Nat} {X Y Z : World} (h : KpB n B X Y) (k : KpB n B Y Z) : KpB n B X Z := ⟨h.1.trans k.1, fun t v b => k.2 t v (h.2 t v b)⟩
theorem kpB_b {n B : Nat} {w : World} (hn : n ≤ w.heap.size) (W : World) (l : Nat) (o o' : Obj) (hl : w.heap.size ≤ l) (h : W.heap[l]? = some o) (hc : o.isCells = false) (hw : o.isWalk = false) : KpB n B W (W.putObj l o') :=
  ⟨belowK_b hn W l o o' hl h hc hw, fun t v b => b.kept (grownBy_putObj' W l o') (fun e => by cases e; rw [show W.heap[B]? = _ from b] at h; cases h; cases hc)⟩
theorem back1_in (F : Fence) (n : Nat) (h8 : F.fn 96) (hro : F.round = none) (hn : 1 ≤ n) (l Bs n₀ b off len cap : Nat) (zs : Nat → BusT) (hreach : len ≤ 1048576) (hb : b < n₀) (J Jx : List (Nat × BusT) → World → Prop)
    (hY : ∀ pre x W, J pre W → pre.length < len → YieldAt F (n - 1) Try.prog l #[.int .i64 (x.1 : Int), busV x.2] W fun e W' =>
      (e = .returned (.bool true) ∧ J (pre ++ [x]) W' ∧ KpB n₀ Bs W W') ∨ (e = .returned (.bool false) ∧ Jx (pre ++ [x]) W'))
    (W : World) (hBs : Boxed W Bs 22 (.slice (some ⟨b, off, none⟩) len cap))
    (hc : ∀ j, j < len → W.cell? ⟨b, off + j * 3, none⟩ = some (.int .i64 (zs j).1) ∧ W.cell? ⟨b, off + j * 3 + 1, none⟩ = some (.int .i64 (zs j).2.1) ∧ W.cell? ⟨b, off + j * 3 + 2, none⟩ = some (.int .i64 (zs j).2.2)) (h0 : J [] W) :
    CallsIn F n Try.prog 96 #[.func (.yield l) #[] #[], .pointer (some ⟨Bs, 0, none⟩)] W fun e W' => (∃ v, e = .returned v) ∧
      ((∃ ys, ys = upto (fun j => (len - 1 - j, zs (len - 1 - j))) len ∧ J ys W') ∨ (∃ pre, (∃ k, k ≤ len ∧ pre = upto (fun j => (len - 1 - j, zs (len - 1 - j))) k) ∧ Jx pre W')) := by
  refine callsIn_of_wp Try.func96 rfl h8 ?_ hro
  simp only [Try.ntmps96, List.size_toArray, List.length_cons, List.length_nil, Nat.reduceAdd, Nat.reduceSub, Array.replicate_succ, Array.replicate_zero, List.push_toArray, List.append_toArray, List.nil_append, List.cons_append]
  have hBs0 := hBs.cell
  gi_wp2
  gi_loopw [3] (fun i wr => ∃ k : Nat, k ≤ len ∧ i = .int .i64 ((len : Int) - 1 - k) ∧ J (upto (fun j => (len - 1 - j, zs (len - 1 - j))) k) wr ∧ Below n₀ W wr ∧ Boxed wr Bs 22 (.slice (some ⟨b, off, none⟩) len cap))
    (fun i _ => (intOf i + 1).toNat)
  case atStart => exact ⟨0, Nat.zero_le _, by simp, h0, Below.refl _ _, hBs⟩
  case round =>
    obtain ⟨k, hk, rfl, hJs, hnx, hbx⟩ := hrel
    by_cases hlt : k < len
    · obtain ⟨fn, tmps, assign, body, hy, hR⟩ := hY _ (len - 1 - k, zs (len - 1 - k)) wr hJs (by rw [upto_length]; exact hlt)
      dsimp only [busV] at hy
      obtain ⟨g1, g2, g3⟩ := hc (len - 1 - k) (by omega)
      have e : (len : Int) - 1 - k = ((len - 1 - k : Nat) : Int) := by omega
      have hm : len - 1 - k < len := by omega
      rw [e]
      generalize hj : len - 1 - k = j at *
      have k0 := hbx.cell
      have k1 := (hnx.cell (p := ⟨b, off + j * 3, none⟩) hb).trans g1
      have k2 := (hnx.cell (p := ⟨b, off + j * 3 + 1, none⟩) hb).trans g2
      have k3 := (hnx.cell (p := ⟨b, off + j * 3 + 2, none⟩) hb).trans g3
      gi_wp2
      refine hR.mono ?_
      rintro e3 W3 (⟨rfl, hJ3, hk3⟩ | ⟨rfl, hJx3⟩)
      · gi_wp2
        go_roundw
        case rel => exact ⟨k + 1, by omega, by simp <;> omega, by rw [upto_succ, hj]; exact hJ3, hnx.trans hk3.1, hk3.2 _ _ hbx⟩
        case measure => simp [intOf] <;> omega
      · gi_wp2
        refine bodyPost_ret (results_none rfl _ _ _) rfl ?_
        exact ⟨⟨_, rfl⟩, .inr ⟨_, ⟨k + 1, by omega, by rw [upto_succ, hj]⟩, hJx3⟩⟩
    · obtain rfl : k = len := by omega
      gi_wp2
      go_end0
      exact ⟨⟨_, rfl⟩, .inl ⟨_, rfl, hJs⟩⟩
/-- .. at the nil slice: no round. -/
theorem back1_nil_in (a : Option Addr) (cap : Nat) (F : Fence) (n : Nat) (h8 : F.fn 96) (hro : F.round = none) (l Bs : Nat) (J : List (Nat × BusT) → World → Prop) (W : World) (hBs : W.cell? ⟨Bs, 0, none⟩ = some (.slice a 0 cap)) (h0 : J [] W) :
    CallsIn F n Try.prog 96 #[.func (.yield l) #[] #[], .pointer (some ⟨Bs, 0, none⟩)] W fun e W' => (∃ v, e = .returned v) ∧ J [] W' := by
  refine callsIn_of_wp Try.func96 rfl h8 ?_ hro
  simp only [Try.ntmps96, List.size_toArray, List.length_cons, List.length_nil, Nat.reduceAdd, Nat.reduceSub, Array.replicate_succ, Array.replicate_zero, List.push_toArray, List.append_toArray, List.nil_append, List.cons_append]
  gi_wp2
  gi_loopw [3] (fun i wr => i = .int .i64 (-1) ∧ J [] wr) (fun _ _ => 0)
  case atStart => exact ⟨rfl, h0⟩
  case round =>
    obtain ⟨rfl, hJs⟩ := hrel
    gi_wp2
    go_end0
    exact ⟨⟨_, rfl⟩, hJs⟩
theorem backward_in (F : Fence) (n : Nat) (h6 : F.fn 42) (hro : F.round = none) (a : Option Addr) (len cap : Nat) (w : World) :
    CallsIn F n Try.prog 42 #[.slice a len cap] w fun e w' => e = .returned (.func (.func 96) #[] #[.pointer (some ⟨w.heap.size, 0, none⟩)]) ∧ w' = w.alloc (.cells #[.slice a len cap] 22) := by
  refine callsIn_of_wp Try.func42 rfl h6 ?_ hro
  simp only [Try.ntmps42, List.size_toArray, List.length_cons, List.length_nil, Nat.reduceAdd, Nat.reduceSub, Array.replicate_succ, Array.replicate_zero, List.push_toArray, List.append_toArray, List.nil_append, List.cons_append]
  gi_wp2
  go_ret
  exact ⟨rfl, rfl⟩
/-- The slice value holds the things zs; or it is nil and there are none. -/
def Buses (n₀ : Nat) (W : World) (a : Option Addr) (len cap : Nat) (zs : Nat → BusT) : Prop :=
  len = 0 ∨ ∃ b off, a = some ⟨b, off, none⟩ ∧ b < n₀ ∧ ∀ j, j < len → W.cell? ⟨b, off + j * 3, none⟩ = some (.int .i64 (zs j).1) ∧ W.cell? ⟨b, off + j * 3 + 1, none⟩ = some (.int .i64 (zs j).2.1) ∧ W.cell? ⟨b, off + j * 3 + 2, none⟩ = some (.int .i64 (zs j).2.2)
theorem Buses.below {n₀ : Nat} {A B : World} {a : Option Addr} {len cap : Nat} {zs : Nat → BusT} (h : Below n₀ A B) : Buses n₀ A a len cap zs → Buses n₀ B a len cap zs
  | .inl e => .inl e
  | .inr ⟨b, off, e, hb, hc⟩ => .inr ⟨b, off, e, hb, fun j hj => ⟨(h.cell (p := ⟨b, off + j * 3, none⟩) hb).trans (hc j hj).1, (h.cell (p := ⟨b, off + j * 3 + 1, none⟩) hb).trans (hc j hj).2.1, (h.cell (p := ⟨b, off + j * 3 + 2, none⟩) hb).trans (hc j hj).2.2⟩⟩
theorem back_stops (F : Fence) (n : Nat) (h8 : F.fn 96) (hro : F.round = none) (hn : 1 ≤ n) (Bs n₀ : Nat) (a : Option Addr) (len cap : Nat) (zs : Nat → BusT) (hreach : len ≤ 1048576) (w : World) (hn₀ : n₀ ≤ w.heap.size)
    (hc : Boxed w Bs 22 (.slice a len cap)) (hI : Buses n₀ w a len cap zs) :
    SeqStopsK F n Try.prog 96 #[.pointer (some ⟨Bs, 0, none⟩)] (fun x : Nat × BusT => #[Value.int .i64 (x.1 : Int), busV x.2]) (KpB n₀ Bs) (fun ys => ys = upto (fun j => (len - 1 - j, zs (len - 1 - j))) len)
      (fun pre => ∃ k, k ≤ len ∧ pre = upto (fun j => (len - 1 - j, zs (len - 1 - j))) k) len w := fun l J Jx W hW _ _ hY h0 => by
  have hc' : Boxed W Bs 22 (.slice a len cap) := (hW.block Bs hc.lt).trans hc
  rcases hI.below (hW.mono hn₀) with rfl | ⟨b, off, rfl, hb, hcs⟩
  · exact (back1_nil_in a cap F n h8 hro l Bs J W hc'.cell h0).mono fun e W' ⟨he, hj⟩ => ⟨he, .inl ⟨_, rfl, hj⟩⟩
  · exact back1_in F n h8 hro hn l Bs n₀ b off len cap zs hreach hb J Jx hY W hc' hcs h0
/-- Is it what is looked for? -/
def Hit (addr : Int) (z : BusT) : Prop := z.1 ≠ 0 ∧ z.2.1 = addr
def Box3 (W : World) (B : Nat) (x : BusT) : Prop := W.heap[B]? = some (.cells #[.int .i64 x.1, .int .i64 x.2.1, .int .i64 x.2.2] 26 (0, 0))
theorem box3_own (B : Nat) (x : BusT) : Own (fun (_ : Unit) W => Box3 W B x) := fun s X Y row hs hg hrow => by
  have hlt : B < X.heap.size := (Array.getElem?_eq_some_iff.1 hs).1
  exact (hg.block B hlt (fun e' => by obtain ⟨o, ho, hc⟩ := hrow B e'.symm; rw [show X.heap[B]? = _ from hs] at ho; cases ho; cases hc)).trans hs
set_option maxRecDepth 100000 in
set_option maxHeartbeats 4000000 in
theorem last_in (F : Fence) (n : Nat) (h13 : F.fn 13) (h42 : F.fn 42) (h96 : F.fn 96) (hro : F.round = none) (hn : 3 ≤ n) (a : Option Addr) (len cap : Nat) (zs : Nat → BusT) (hreach : len ≤ 1048576) (addr : Int) (w : World) (hI : Buses w.heap.size w a len cap zs) :
    CallsIn F n Try.prog 13 #[.slice a len cap, .int .i64 addr] w fun e W' =>
      ((e = .returned (.tuple #[.int .i64 0, .bool false]) ∧ ∀ j, j < len → ¬ Hit addr (zs j)) ∨ (∃ k : Nat, k < len ∧ e = .returned (.tuple #[.int .i64 (zs (len - 1 - k)).2.2, .bool true]) ∧ Hit addr (zs (len - 1 - k)) ∧ ∀ j, j < k → ¬ Hit addr (zs (len - 1 - j)))) ∧ Below w.heap.size w W' := by
  have h1 : 1 ≤ n := by omega
  refine callsIn_of_wp_marks Try.func13 rfl h13 ?_ hro
  simp only [Try.ntmps13, List.size_toArray, List.length_cons, List.length_nil, Nat.reduceAdd, Nat.reduceSub, Array.replicate_succ, Array.replicate_zero, List.push_toArray, List.append_toArray, List.nil_append, List.cons_append]
  gi_wp2_with (gi_at_call 42; refine (backward_in F (n - 1) h42 hro _ _ _ _).mono ?_; rintro e w' ⟨rfl, rfl⟩)
  have bA := (((Boxed.new w 3 (.int .i64 addr)).alloc (.cells #[.int .i64 0] 3)).alloc (.cells #[.bool false] 4)).alloc (.cells #[.slice a len cap] 22)
  have bR := ((Boxed.new (w.alloc (.cells #[.int .i64 addr] 3)) 3 (.int .i64 0)).alloc (.cells #[.bool false] 4)).alloc (.cells #[.slice a len cap] 22)
  have bO := (Boxed.new ((w.alloc (.cells #[.int .i64 addr] 3)).alloc (.cells #[.int .i64 0] 3)) 4 (.bool false)).alloc (.cells #[.slice a len cap] 22)
  have bN := Boxed.new (((w.alloc (.cells #[.int .i64 addr] 3)).alloc (.cells #[.int .i64 0] 3)).alloc (.cells #[.bool false] 4)) 22 (.slice a len cap)
  simp only [World.size_alloc] at bR bO bN
  have hB0 : Below w.heap.size w ((((w.alloc (.cells #[.int .i64 addr] 3)).alloc (.cells #[.int .i64 0] 3)).alloc (.cells #[.bool false] 4)).alloc (.cells #[.slice a len cap] 22)) := ((((Below.refl _ w).alloc (Nat.le_refl _) _).alloc (by simp) _).alloc (by simp; omega) _).alloc (by simp; omega) _
  have hsz : ((((w.alloc (.cells #[.int .i64 addr] 3)).alloc (.cells #[.int .i64 0] 3)).alloc (.cells #[.bool false] 4)).alloc (.cells #[.slice a len cap] 22)).heap.size = w.heap.size + 4 := by simp
  obtain ⟨W0, hW0⟩ : ∃ W0, ((((w.alloc (.cells #[.int .i64 addr] 3)).alloc (.cells #[.int .i64 0] 3)).alloc (.cells #[.bool false] 4)).alloc (.cells #[.slice a len cap] 22)) = W0 := ⟨_, rfl⟩
  rw [hW0] at bA bR bO bN hB0 hsz ⊢
  clear hW0
  refine wpIn_rangeFunc_ownH hro h1 (gf := 96) (lb := #[.pointer (some ⟨w.heap.size + 1 + 1 + 1, 0, none⟩)]) rfl h96 (enters_of Try.func96 (by kernel_rfl) rfl)
    (back_stops F (n - 1) h96 hro (by omega) (w.heap.size + 1 + 1 + 1) w.heap.size a len cap zs hreach W0 (by omega) bN (hI.below hB0)) kpB_t (kpB_b (by omega)) (Below.refl _ _) (fun _ => rfl)
    (fun pre W => (((∀ p ∈ pre, ¬ Hit addr p.2) ∧ Boxed W (w.heap.size + 1) 3 (.int .i64 0)) ∧ Boxed W (w.heap.size + 1 + 1) 4 (.bool false)) ∧ Boxed W w.heap.size 3 (.int .i64 addr) ∧ Boxed W (w.heap.size + 1 + 1 + 1) 22 (.slice a len cap) ∧ Below w.heap.size w W)
    (fun c pre W => ((c = .ret ∧ ∃ ini last, pre = ini ++ [last] ∧ (∀ p ∈ ini, ¬ Hit addr p.2) ∧ Hit addr last.2 ∧ Boxed W (w.heap.size + 1) 3 (.int .i64 last.2.2.2)) ∧ Boxed W (w.heap.size + 1 + 1) 4 (.bool true)) ∧ Below w.heap.size w W)
    (OwnFrom.and (OwnFrom.and (OwnFrom.and (ownFrom_pure _ _) (Own.from (boxed_own _ _ _) _)) (Own.from (boxed_own _ _ _) _)) (OwnFrom.and (Own.from (boxed_own _ _ _) _) (OwnFrom.and (Own.from (boxed_own _ _ _) _) (ownFrom_below (Nat.le_refl _) (by omega)))))
    (fun c => OwnFrom.and (OwnFrom.and (fun s A B row hs hg hr => by obtain ⟨hc, ini, last, e1, e2, e3, e4⟩ := hs; exact ⟨hc, ini, last, e1, e2, e3, boxed_own (w.heap.size + 1) 3 (fun (_ : Unit) => Value.int .i64 last.2.2.2) () A B row e4 hg (fun r e => (hr r e).2)⟩) (Own.from (boxed_own _ _ _) _)) (ownFrom_below (Nat.le_refl _) (by omega)))
    ⟨⟨⟨by simp, bR⟩, bO⟩, bA, bN, hB0⟩
    (fun x a' W => ∃ Bx, w.heap.size + 1 + 1 + 1 < Bx ∧ Box3 W Bx x.2 ∧ a' = { tmps := #[.slice a len cap, .int .i64 addr, undef, .pointer (some ⟨w.heap.size, 0, none⟩), .pointer (some ⟨w.heap.size + 1, 0, none⟩), .pointer (some ⟨w.heap.size + 1 + 1, 0, none⟩), undef, .pointer (some ⟨Bx, 0, none⟩), .slice a len cap, .func (.func 96) #[] #[.pointer (some ⟨w.heap.size + 1 + 1 + 1, 0, none⟩)], .int .i64 (x.1 : Int), busV x.2, undef, undef, undef, undef, undef, undef, undef, undef, undef, undef, undef], defers := [] })
    (fun x a' _ X Y row hs hg hr => by obtain ⟨Bx, e1, e2, e3⟩ := hs; exact ⟨Bx, e1, box3_own Bx x.2 () X Y row e2 hg (fun r e => (hr r e).2), e3⟩)
    ?assign ?body ?done ?stop
  case assign =>
    rintro l pre x W K ⟨⟨⟨hp, bR1⟩, bO1⟩, bA1, bN1, hB1⟩ hK
    gi_wp2
    exact hK _ _ ((KeepsOthers.alloc _ _).from _) ⟨(Below.refl _ W).alloc hB1.size _, fun t v b => b.alloc _⟩ ⟨⟨⟨hp, bR1.alloc _⟩, bO1.alloc _⟩, bA1.alloc _, bN1.alloc _, hB1.alloc hB1.size _⟩ ⟨W.heap.size, bN1.lt, World.alloc_heap_new W _, rfl⟩
  case body =>
    rintro l pre x a' W hl ⟨r, hr⟩ ⟨⟨⟨hp, bR1⟩, bO1⟩, bA1, bN1, hB1⟩ ⟨Bx, hBx, bX, rfl⟩ hlt
    have c0 : W.cell? ⟨Bx, 0, none⟩ = some (.int .i64 x.2.1) := by simp [World.cell?, show W.heap[Bx]? = _ from bX]
    have c1 : W.cell? ⟨Bx, 1, none⟩ = some (.int .i64 x.2.2.1) := by simp [World.cell?, show W.heap[Bx]? = _ from bX]
    have c2 : W.cell? ⟨Bx, 2, none⟩ = some (.int .i64 x.2.2.2) := by simp [World.cell?, show W.heap[Bx]? = _ from bX]
    have cA := bA1.cell
    have cR := bR1.cell
    have fR := bR1.frozen
    have cO := bO1.cell
    have fO := bO1.frozen
    have go : ¬ Hit addr x.2 → ∀ p ∈ pre ++ [x], ¬ Hit addr p.2 := fun hx p hp' => (List.mem_append.1 hp').elim (hp p) (fun e => by simp at e; subst e; exact hx)
    gi_wp2
    · rename_i h0
      exact ⟨KeepsFrom.refl _ _, ⟨Below.refl _ _, fun t v b => b⟩, ⟨⟨go (fun h => h.1 h0), bR1⟩, bO1⟩, bA1, bN1, hB1⟩
    · rename_i h0
      obtain ⟨q1, q2⟩ := h0
      have hx : Hit addr x.2 := ⟨by simpa using q1, by simpa using q2⟩
      exact ⟨((KeepsOthers.setCell _ _ _).trans (KeepsOthers.setCell _ _ _)).from _, ⟨⟨rfl, pre, x, rfl, hp, hx, (bR1.set _).other (by omega) _⟩, (bO1.other (by omega) _).set _⟩, (hB1.setCell (p := ⟨w.heap.size + 1, 0, none⟩) (by simp) _).setCell (p := ⟨w.heap.size + 1 + 1, 0, none⟩) (by simp; omega) _⟩
    · rename_i h0
      exact ⟨KeepsFrom.refl _ _, ⟨Below.refl _ _, fun t v b => b⟩, ⟨⟨go (fun h => by
        rcases h0 with h0 | h0
        · simp at h0; exact h.1 h0
        · simp at h0; exact h0 h.2), bR1⟩, bO1⟩, bA1, bN1, hB1⟩
  case done =>
    rintro D ys W hD rfl ⟨⟨⟨hp, bR1⟩, bO1⟩, bA1, bN1, hB1⟩ hK
    have cR := bR1.cell
    have fR := bR1.frozen
    have cO := bO1.cell
    have fO := bO1.frozen
    gi_wp2
    have hK' := ((KeepsOthers.setCell W ⟨w.heap.size + 1, 0, none⟩ (.int .i64 0)).trans (KeepsOthers.setCell _ ⟨w.heap.size + 1 + 1, 0, none⟩ (.bool false))).same D _ hK rfl
    refine ⟨by simp, .inl ⟨_, _, rfl, run_takeDeferred hK', ?_⟩⟩
    have hc4 := cell_kept ((bR1.set (.int .i64 0)).other (B' := w.heap.size + 1 + 1) (by omega) (.bool false)).cell (grownBy_putObj' _ D (.deferred none)) (fun r e => by cases e; exact ⟨_, hK', rfl⟩)
    have hc5 := cell_kept ((bO1.other (B' := w.heap.size + 1) (by omega) (.int .i64 0)).set (.bool false)).cell (grownBy_putObj' _ D (.deferred none)) (fun r e => by cases e; exact ⟨_, hK', rfl⟩)
    refine ⟨.tuple #[.int .i64 0, .bool false], ?_, .inl ⟨rfl, fun j hj => ?_⟩, ((hB1.setCell (p := ⟨w.heap.size + 1, 0, none⟩) (by simp) _).setCell (p := ⟨w.heap.size + 1 + 1, 0, none⟩) (by simp; omega) _).trans (belowK_b (w := w) (Nat.le_refl _) _ D _ _ (by omega) hK' rfl rfl)⟩
    · simp [results, Try.f13, go_sem, hc4, hc5]
    · have := hp (len - 1 - (len - 1 - j), zs (len - 1 - (len - 1 - j))) (by simp only [upto, List.mem_map, List.mem_range]; exact ⟨len - 1 - j, by omega, rfl⟩)
      have e : len - 1 - (len - 1 - j) = j := by omega
      rw [e] at this
      exact this
  case stop =>
    rintro D c pre W hD ⟨k, hk, rfl⟩ ⟨⟨⟨rfl, ini, last, e1, e2, e3, bR1⟩, bO1⟩, hB1⟩ hK
    gi_wp2
    refine ⟨by simp, .inl ⟨_, _, rfl, run_takeDeferred hK, ?_⟩⟩
    have hc4 := cell_kept bR1.cell (grownBy_putObj' _ D (.deferred none)) (fun r e => by cases e; exact ⟨_, hK, rfl⟩)
    have hc5 := cell_kept bO1.cell (grownBy_putObj' _ D (.deferred none)) (fun r e => by cases e; exact ⟨_, hK, rfl⟩)
    obtain ⟨k', rfl⟩ : ∃ k', k = k' + 1 := by
      cases k with
      | zero => simp [upto] at e1
      | succ k' => exact ⟨k', rfl⟩
    rw [upto_succ] at e1
    obtain ⟨rfl, e5⟩ := List.append_inj' e1 rfl
    obtain rfl : (len - 1 - k', zs (len - 1 - k')) = last := by simpa using e5
    refine ⟨.tuple #[.int .i64 (zs (len - 1 - k')).2.2, .bool true], ?_, .inr ⟨k', by omega, rfl, e3, fun j hj => e2 (len - 1 - j, zs (len - 1 - j)) (by simp only [upto, List.mem_map, List.mem_range]; exact ⟨j, hj, rfl⟩)⟩, hB1.trans (belowK_b (w := w) (Nat.le_refl _) W D _ _ (by omega) hK rfl rfl)⟩
    simp [results, Try.f13, go_sem, hc4, hc5]
end Go.Proofs.Ytlagfebklcaaeaa

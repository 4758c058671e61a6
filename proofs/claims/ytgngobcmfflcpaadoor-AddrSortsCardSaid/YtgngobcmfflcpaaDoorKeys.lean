/-
  maps.Keys AT KEYS OF SIX CELLS: its iterator gives the map's keys, each once, in some order.
-/
import Derived.Test.YtgngobcmfflcpaaDoorColl
import Derived.Shelf.AbstractIn
import Derived.RangeFuncSeq
import Derived.WalkKit
import Derived.OwnWalkIn
import Derived.TacticsInMore
import Derived.RegionIn
import Derived.LoopNIn
import Derived.LoopIn
import Derived.Test.YtgngobcmfflcpaaDoorProg
namespace Go.Proofs.YtgngobcmfflcpaaDoor
open Go.RowKit Go.Maps Go.Sort Go.Shelf Go.Eng Go.Proofs
open Go.WideElems (Fit rd rg rd_key rd_val rg_of rd_mk)

structure K6 where
  c0 : Value
  c1 : Value
  c2 : Value
  c3 : Value
  c4 : Value
  c5 : Value
  h0 : c0.oneCell' = true
  h1 : c1.oneCell' = true
  h2 : c2.oneCell' = true
  h3 : c3.oneCell' = true
  h4 : c4.oneCell' = true
  h5 : c5.oneCell' = true
def K6.v (x : K6) : Value := .agg #[x.c0, x.c1, x.c2, x.c3, x.c4, x.c5]

abbrev kT : Nat := 27
abbrev mT : Nat := 64
abbrev eT : Nat := 65

theorem grownBy_alloc0 (W : World) (o : Obj) : W.grownBy (W.alloc o) none :=
  ⟨rfl, rfl, rfl, by simp, fun k hk _ => Below.heap_alloc W o k hk⟩

set_option maxRecDepth 100000 in
set_option maxHeartbeats 1000000 in
theorem keys1 (F : Fence) (n : Nat) (h10 : F.fn 50) (hro : F.round = none) (hn : 1 ≤ n) (l Bm Bo b nn : Nat) (D0 : DataW Unit) {R : Value → Option (DataW Unit × List MemPlace)} (J : List Value → World → Prop)
    (K : Keyed Tryd.prog kT) (hinv : ∀ key kl, keyOf Tryd.prog kT key = some kl → ∃ x : K6, key = x.v)
    (hY : ∀ pre (x : K6) W, J pre W → pre.length < Maps.size D0 → YieldAt F (n - 1) Tryd.prog l #[x.v] W fun e W' => e = .returned (.bool true) ∧ J (pre ++ [x.v]) W' ∧ KeepsWalks W W')
    (W : World) (hJ : AbidesFrom W.heap.size J) (hm : W.cell? ⟨Bm, Bo, none⟩ = some (.map (some b))) (hown : W.ownsMap Tryd.prog kT R b nn D0) (h0 : J [] W) :
    CallsIn F n Tryd.prog 50 #[.func (.yield l) #[] #[], .pointer (some ⟨Bm, Bo, none⟩)] W fun e W' => (∃ v, e = .returned v) ∧ ∃ ss : List Value, (∃ left, Coll Tryd.prog kT D0 left ss ∧ ∀ kl, left kl = false) ∧ J ss W' := by
  have mixed : Tryd.prog.follows .mixedOrders = true := by kernel_rfl
  refine callsIn_of_wp Tryd.func50 rfl h10 ?_ hro
  simp only [Tryd.ntmps50, List.size_toArray, List.length_cons, List.length_nil, Nat.reduceAdd, Nat.reduceSub, Array.replicate_succ, Array.replicate_zero, List.push_toArray, List.append_toArray, List.nil_append, List.cons_append]
  gi_wp2_with (first
    | (gi_at_range; refine wpListIn_range_own _ rfl _ mT rfl kT eT K Tryd.underlying64 _ b nn _ rfl hown ?_; intro w0 hrg0 hg0 hs0)
    | gi_in)
  go_frame
  gi_loopw [3] (fun _ wr => ∃ (left : Lit → Bool) (cnt : Nat) (ss : List Value), wr.ranges Tryd.prog kT R b W.heap.size nn D0 left cnt ∧ ss.length + cnt ≤ Maps.size D0 ∧ Coll Tryd.prog kT D0 left ss ∧ J ss wr)
    (fun _ wr => wr.rangeLeft b W.heap.size)
  case atStart =>
    exact ⟨_, _, [], hrg0, by simp, Coll.start _ _ D0, hJ [] W w0 none h0 hg0 (fun r e => by cases e)⟩
  case round =>
    obtain ⟨left, cnt, ss, hrg, hcs, hC, hJs⟩ := hrel
    gi_wp2_with (first
      | (gi_at_next; refine wpListIn_next_ranges _ rfl _ rfl kT K R K6.v id hinv (fun v _ _ => ⟨v, rfl⟩) b W.heap.size nn _ _ _ rfl hrg ?_ ?_)
      | gi_in)
    · -- NOTHING IS LEFT
      intro hc0 hl0
      gi_wp2
      go_end0
      exact ⟨⟨_, rfl⟩, ss, ⟨left, hC, hl0⟩, hJs⟩
    · -- AN ENTRY HAS COME: yield(k)
      intro x c kl yd yp w2 cnt2 hkey hlk hv hat hrg2 hlt hg2 hs2 hen
      have hJ2 : J ss w2 := hJ ss wr w2 (some W.heap.size) hJs hg2 (fun r e => by cases e; exact ⟨Nat.le_refl _, hrg.iter_walk⟩)
      obtain ⟨a0, a1, a2, a3, a4, a5, b0, b1, b2, b3, b4, b5⟩ := x
      clear hs2
      simp only [K6.v, id] at hen
      have s0 : ∀ (w : World) (a : Addr) (m : Mode), (store a a0 m).run Tryd.prog w = stored Tryd.prog w a a0 m := fun w a m => run_store Tryd.prog w a a0 m b0
      have s1 : ∀ (w : World) (a : Addr) (m : Mode), (store a a1 m).run Tryd.prog w = stored Tryd.prog w a a1 m := fun w a m => run_store Tryd.prog w a a1 m b1
      have s2 : ∀ (w : World) (a : Addr) (m : Mode), (store a a2 m).run Tryd.prog w = stored Tryd.prog w a a2 m := fun w a m => run_store Tryd.prog w a a2 m b2
      have s3 : ∀ (w : World) (a : Addr) (m : Mode), (store a a3 m).run Tryd.prog w = stored Tryd.prog w a a3 m := fun w a m => run_store Tryd.prog w a a3 m b3
      have s4 : ∀ (w : World) (a : Addr) (m : Mode), (store a a4 m).run Tryd.prog w = stored Tryd.prog w a a4 m := fun w a m => run_store Tryd.prog w a a4 m b4
      have s5 : ∀ (w : World) (a : Addr) (m : Mode), (store a a5 m).run Tryd.prog w = stored Tryd.prog w a a5 m := fun w a m => run_store Tryd.prog w a a5 m b5
      have hga : w2.grownBy (w2.alloc (Obj.cells #[a0, a1, a2, a3, a4, a5] kT)) none := grownBy_alloc0 _ _
      have hJ3 : J ss (w2.alloc (Obj.cells #[a0, a1, a2, a3, a4, a5] kT)) := hJ ss w2 _ none hJ2 hga (fun r e => by cases e)
      obtain ⟨fn, tmps, assign, body, hy, hR⟩ := hY ss ⟨a0, a1, a2, a3, a4, a5, b0, b1, b2, b3, b4, b5⟩ _ hJ3 (by omega)
      simp only [K6.v] at hy
      gi_wp2
      refine hR.mono ?_
      rintro e W3 ⟨rfl, hJ4, hk3⟩
      gi_wp2
      have hrg3 := (hrg2.of_walks (KeepsWalks.alloc _ _)).of_walks hk3
      go_roundw
      case rel => exact ⟨_, cnt2, ss ++ [_], hrg3, by simp; omega, hC.step K hkey hlk hat, hJ4⟩
      case measure => rw [hrg3.left_eq, hrg.left_eq]; exact hlt

/-- What the iterator gives: the keys of the map in block b, each once. -/
theorem keys_gives (F : Fence) (n : Nat) (h10 : F.fn 50) (hro : F.round = none) (hn : 1 ≤ n) (Bm Bo b nn : Nat) (D0 : DataW Unit) {R : Value → Option (DataW Unit × List MemPlace)} (w : World) (hBm : Bm < w.heap.size)
    (K : Keyed Tryd.prog kT) (hinv : ∀ key kl, keyOf Tryd.prog kT key = some kl → ∃ x : K6, key = x.v)
    (hm : w.cell? ⟨Bm, Bo, none⟩ = some (.map (some b))) (hown : w.ownsMap Tryd.prog kT R b nn D0) :
    SeqGives F n Tryd.prog 50 #[.pointer (some ⟨Bm, Bo, none⟩)] K6.v (fun ss => ∃ left, Coll Tryd.prog kT D0 left (ss.map K6.v) ∧ ∀ kl, left kl = false) (Maps.size D0) w := fun l J W hW hJ hY h0 => by
  have hown' : W.ownsMap Tryd.prog kT R b nn D0 := by
    have hbl := hown.lt
    obtain ⟨es, clock, hb, Ft, hs, hD⟩ := hown
    exact ⟨es, clock, (hW.block b hbl).trans hb, Ft, hs, hD⟩
  refine (keys1 F n h10 hro hn l Bm Bo b nn D0 (fun vs W => ∃ xs : List K6, vs = xs.map K6.v ∧ J xs W) K hinv ?_ W ?_ ((hW.cell (p := ⟨Bm, Bo, none⟩) hBm).trans hm) hown' ⟨[], rfl, h0⟩).mono ?_
  · rintro _ x W1 ⟨xs, rfl, hJ1⟩ hlt
    obtain ⟨fn, tmps, assign, body, hy, hR⟩ := hY xs x W1 hJ1 (by simpa using hlt)
    refine ⟨fn, tmps, assign, body, hy, hR.mono ?_⟩
    rintro e W2 ⟨h1, h2, h3⟩
    exact ⟨h1, ⟨xs ++ [x], by simp, h2⟩, h3⟩
  · rintro _ W1 W2 row ⟨xs, rfl, hJ1⟩ hg hr
    exact ⟨xs, rfl, hJ xs W1 W2 row hJ1 hg hr⟩
  · rintro e W2 ⟨h1, _, h2, xs, rfl, h3⟩
    exact ⟨h1, xs, h2, h3⟩

set_option maxHeartbeats 1000000 in
/-- maps.Keys(m): the map is boxed; the function value captures the box. -/
theorem keys_in (F : Fence) (n : Nat) (h7 : F.fn 34) (hro : F.round = none) (mb : Option Nat) (w : World) :
    CallsIn F n Tryd.prog 34 #[.map mb] w fun e w' => e = .returned (.func (.func 50) #[] #[.pointer (some ⟨w.heap.size, 0, none⟩)]) ∧ w' = w.alloc (.cells #[.map mb] mT) := by
  have mixed : Tryd.prog.follows .mixedOrders = true := by kernel_rfl
  refine callsIn_of_wp Tryd.func34 rfl h7 ?_ hro
  simp only [Tryd.ntmps34, List.size_toArray, List.length_cons, List.length_nil, Nat.reduceAdd, Nat.reduceSub, Array.replicate_succ, Array.replicate_zero, List.push_toArray, List.append_toArray, List.nil_append, List.cons_append]
  gi_wp2
  go_ret
  exact ⟨rfl, rfl⟩
end Go.Proofs.YtgngobcmfflcpaaDoor

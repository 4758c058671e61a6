/-
  THE REPLACER's PLAIN LAW: what is counted, what is laid.
-/
import Derived.Test.YtmhmelmoionoiaaGreatDoorQLaw
import Derived.Test.YtmhmelmoionoiaaGreatDoorBuild
import Derived.Lib.Bytealg
import Derived.Test.YtmhmelmoionoiaaGreatDoorOnce
import Derived.Shelf.Strings.Count
import Derived.Laws.CopyOwn
namespace Go.Proofs.YtmhmelmoionoiaaGreatDoor.On
open Go.RowKit Go.Eng Go.Proofs

set_option maxRecDepth 100000

def isS (c : UInt8) : Bool := (repK 5 c.toNat).isSome
def cnt : Str → Nat
  | [] => 0
  | c :: r => (bif isS c then 1 else 0) + cnt r

/-- One byte, told by its number: closed, for the kernel. -/
def okN (n : Nat) : Bool := match repK 5 n with
  | none => (qB n.toUInt8 == [n.toUInt8]) && ! (n.toUInt8 == 36) && ! (n.toUInt8 == 9) && ! (n.toUInt8 == 10) && ! (n.toUInt8 == 92) && ! (n.toUInt8 == 34)
  | some bs => (qB n.toUInt8 == bs) && (bs.length == 2) && (((bif n.toUInt8 == 36 then 1 else 0) + (bif n.toUInt8 == 9 then 1 else 0) + (bif n.toUInt8 == 10 then 1 else 0) + (bif n.toUInt8 == 92 then 1 else 0) + (bif n.toUInt8 == 34 then 1 else 0)) == 1)
theorem okN_all : (List.range 256).all okN = true := by kernel_rfl
theorem okN_at (c : UInt8) : okN c.toNat = true := by
  have := okN_all
  rw [List.all_eq_true] at this
  exact this c.toNat (List.mem_range.2 c.toNat_lt)
theorem back (c : UInt8) : c.toNat.toUInt8 = c := by simp
theorem rep_none {c : UInt8} (h : repK 5 c.toNat = none) : qB c = [c] ∧ isS c = false := by
  have := okN_at c
  unfold okN at this
  rw [h, back] at this
  simp only [Bool.and_eq_true, beq_iff_eq] at this
  exact ⟨this.1.1.1.1.1, by simp [isS, h]⟩
theorem rep_some {c : UInt8} {bs : List UInt8} (h : repK 5 c.toNat = some bs) : qB c = bs ∧ bs.length = 2 ∧ isS c = true := by
  have := okN_at c
  unfold okN at this
  rw [h, back] at this
  simp only [Bool.and_eq_true, beq_iff_eq] at this
  exact ⟨this.1.1, this.1.2, by simp [isS, h]⟩
theorem one_of (c : UInt8) : (bif isS c then 1 else 0) = (bif c == 36 then 1 else 0) + (bif c == 9 then 1 else 0) + (bif c == 10 then 1 else 0) + (bif c == 92 then 1 else 0) + (bif c == 34 then 1 else 0) := by
  have := okN_at c
  unfold okN at this
  rw [back] at this
  cases h : repK 5 c.toNat with
  | none =>
    rw [h] at this
    simp only [Bool.and_eq_true, Bool.not_eq_true'] at this
    obtain ⟨⟨⟨⟨⟨_, h1⟩, h2⟩, h3⟩, h4⟩, h5⟩ := this
    rw [(rep_none h).2, h1, h2, h3, h4, h5]
    rfl
  | some bs =>
    rw [h] at this
    simp only [Bool.and_eq_true, beq_iff_eq] at this
    rw [(rep_some h).2.2, this.2]
    rfl
theorem count_cons' (c k : UInt8) (r : Str) : Lib.countByte (c :: r) k = (bif c == k then 1 else 0) + Lib.countByte r k := by
  unfold Lib.countByte
  rw [List.count_cons]
  cases c == k <;> simp <;> omega
/-- The number of bytes to be replaced, by the five counts. -/
def sumK (l : Str) : Nat → Nat
  | 0 => 0
  | k + 1 => sumK l k + Lib.countByte l (keyN k)
theorem sumK_cnt : ∀ l : Str, sumK l 5 = cnt l
  | [] => rfl
  | c :: r => by
    have ih := sumK_cnt r
    have h1 := one_of c
    simp only [sumK, keyN, cnt, count_cons'] at ih ⊢
    omega
theorem quB_append : ∀ a b : Str, quB (a ++ b) = quB a ++ quB b
  | [], b => rfl
  | c :: r, b => by
    show qB c ++ quB (r ++ b) = (qB c ++ quB r) ++ quB b
    rw [quB_append r b, List.append_assoc]
theorem cnt_append : ∀ a b : Str, cnt (a ++ b) = cnt a + cnt b
  | [], b => by simp [cnt]
  | c :: r, b => by
    show (bif isS c then 1 else 0) + cnt (r ++ b) = ((bif isS c then 1 else 0) + cnt r) + cnt b
    rw [cnt_append r b]; omega
theorem qB_cnt (c : UInt8) : (qB c).length = 1 + (bif isS c then 1 else 0) := by
  cases h : repK 5 c.toNat with
  | none => rw [(rep_none h).1, (rep_none h).2]; rfl
  | some bs => rw [(rep_some h).1, (rep_some h).2.1, (rep_some h).2.2]; rfl
theorem quB_cnt : ∀ l : Str, (quB l).length = l.length + cnt l
  | [] => rfl
  | c :: r => by
    have ih := quB_cnt r
    have h := qB_cnt c
    simp only [quB, cnt, List.length_append, List.length_cons]
    omega
theorem quB_calm : ∀ l : Str, cnt l = 0 → quB l = l
  | [], _ => rfl
  | c :: r, h => by
    simp only [cnt] at h
    have hr := quB_calm r (by omega)
    cases hk : repK 5 c.toNat with
    | none => simp only [quB]; rw [(rep_none hk).1, hr]; rfl
    | some bs => rw [(rep_some hk).2.2] at h; simp at h
theorem take_succ' {l : Str} {i : Nat} (h : i < l.length) : l.take (i + 1) = l.take i ++ [l[i]] := List.take_succ_eq_append_getElem h
theorem cnt_step {l : Str} {i : Nat} (h : i < l.length) : cnt (l.take (i + 1)) = cnt (l.take i) + (bif isS l[i] then 1 else 0) := by
  rw [take_succ' h, cnt_append]; simp [cnt]
theorem quB_step {l : Str} {i : Nat} (h : i < l.length) : quB (l.take (i + 1)) = quB (l.take i) ++ qB l[i] := by
  rw [take_succ' h, quB_append]; simp [quB]
theorem cnt_mono {l : Str} (i : Nat) : cnt (l.take i) ≤ cnt l := by
  conv => rhs; rw [← List.take_append_drop i l, cnt_append]
  omega
end Go.Proofs.YtmhmelmoionoiaaGreatDoor.On

/-
  strings.NewReplacer at five bytes, and its first Replace up to the table: walked.
-/

namespace Go.Proofs.YtmhmelmoionoiaaGreatDoor.On
open Go.RowKit Go.Lib Go.Eng Go.Proofs

set_option maxHeartbeats 16000000
set_option maxRecDepth 100000

def onV : List Value := [.string ⟨#[34]⟩, .string ⟨#[92, 34]⟩, .string ⟨#[92]⟩, .string ⟨#[92, 92]⟩, .string ⟨#[10]⟩, .string ⟨#[92, 110]⟩, .string ⟨#[9]⟩, .string ⟨#[92, 116]⟩, .string ⟨#[36]⟩, .string ⟨#[92, 36]⟩]

theorem new_walk (O : Nat) (w : World) (o0 : w.cell? ⟨O, 0, none⟩ = some (.string ⟨#[34]⟩)) (o1 : w.cell? ⟨O, 1, none⟩ = some (.string ⟨#[92, 34]⟩)) (o2 : w.cell? ⟨O, 2, none⟩ = some (.string ⟨#[92]⟩)) (o3 : w.cell? ⟨O, 3, none⟩ = some (.string ⟨#[92, 92]⟩))
    (o4 : w.cell? ⟨O, 4, none⟩ = some (.string ⟨#[10]⟩)) (o5 : w.cell? ⟨O, 5, none⟩ = some (.string ⟨#[92, 110]⟩)) (o6 : w.cell? ⟨O, 6, none⟩ = some (.string ⟨#[9]⟩)) (o7 : w.cell? ⟨O, 7, none⟩ = some (.string ⟨#[92, 116]⟩))
    (o8 : w.cell? ⟨O, 8, none⟩ = some (.string ⟨#[36]⟩)) (o9 : w.cell? ⟨O, 9, none⟩ = some (.string ⟨#[92, 36]⟩)) :
    Calls Tryz.prog 8 #[.slice (some ⟨O, 0, none⟩) 10 10] w fun e w' => e = .returned (.pointer (some ⟨w.heap.size + 1, 0, none⟩)) ∧ ∃ zs c, w' = ((w.alloc (.cells (onV.toArray ++ zs) 9)).alloc (.cells #[.int .u32 0, .int .i32 0, .int .u32 0, .nilIface, .slice (some ⟨w.heap.size, 0, none⟩) 10 c] 64)).drew := by
  go_enter Tryz.func8, Tryz.ntmps8
  go_wp2
  go_ret
  exact ⟨rfl, _, _, rfl⟩

/-- The Replacer's block. -/
def RowR (w : World) (R : Nat) (d m : Int) (v3 v4 : Value) : Prop := w.heap[R]? = some (.cells #[.int .u32 d, .int .i32 m, .int .u32 0, v3, v4] 64 (0, 0))

/-- The table stands at block B; all that is of it stands from lo on. -/
def Tab (w : World) (lo B : Nat) : Prop :=
  lo ≤ B ∧ w.frozen? ⟨B, 256, none⟩ = false ∧ (∃ S, lo ≤ S ∧ w.cell? ⟨B, 256, none⟩ = some (.slice (some ⟨S, 0, none⟩) 5 5) ∧ ∀ k, k < 5 → w.cell? ⟨S, k, none⟩ = some (.string ⟨#[keyN k]⟩)) ∧
  ∀ o, o < 256 → ∃ v, w.cell? ⟨B, o, none⟩ = some v ∧ RepAt w lo v (repK 5 o)

theorem Tab.mono {w w' : World} {lo B : Nat} (h : Tab w lo B) (hk : ∀ b, lo ≤ b → b < w.heap.size → w'.heap[b]? = w.heap[b]?) : Tab w' lo B := by
  obtain ⟨h1, h2, ⟨S, hS, h3, h4⟩, h5⟩ := h
  have hB := block_lt_of_cell h3
  have hSl := block_lt_of_cell (h4 0 (by omega))
  refine ⟨h1, (World.frozen?_of_block (w := w) (hk B h1 hB)).trans h2, ⟨S, hS, (World.cell?_of_block (w := w) (hk B h1 hB)).trans h3, fun k hk5 => (World.cell?_of_block (w := w) (hk S hS hSl)).trans (h4 k hk5)⟩, fun o ho => ?_⟩
  obtain ⟨v, hv, hr⟩ := h5 o ho
  exact ⟨v, (World.cell?_of_block (w := w) (hk B h1 hB)).trans hv, repAt_mono hr hk (repK_ne 5 o)⟩

theorem tab_of_inv {w0 w : World} {hs : Nat} (h : Inv w0 hs 5 w) : Tab w hs (hs + 1) := by
  obtain ⟨hB, hsz, hS, C, hC, hCs, hCl, hCo⟩ := h
  refine ⟨by omega, frozen_of_row _ _ _ _ _ hC, ⟨hs, Nat.le_refl _, by rw [cell_of_row _ _ _ _ _ _ hC]; exact hCl, fun k hk => ?_⟩, fun o ho => ?_⟩
  · rw [cell_of_row _ _ _ _ _ _ hS]
    match k, hk with | 0, _ => rfl | 1, _ => rfl | 2, _ => rfl | 3, _ => rfl | 4, _ => rfl
  · obtain ⟨v, hv, hr⟩ := hCo o ho
    refine ⟨v, by rw [cell_of_row _ _ _ _ _ _ hC]; exact hv, ?_⟩
    cases hq : repK 5 o with
    | none => rw [hq] at hr; exact hr
    | some bs =>
      rw [hq] at hr
      obtain ⟨b, c, h1, h2, h3⟩ := hr
      exact ⟨b, c, h1, by omega, h3⟩

theorem once_walk (R O c : Nat) (w : World) (hRow : RowR w R 0 1 .nilIface (.slice (some ⟨O, 0, none⟩) 10 c)) (hO : ∀ j v, onV[j]? = some v → w.cell? ⟨O, j, none⟩ = some v) :
    Calls Tryz.prog 15 #[.pointer (some ⟨R, 0, none⟩)] w fun e w' => e = .returned (.tuple #[]) ∧ OnceKept R 1 w' ∧
      ∃ lo B, RowR w' R 0 1 (.iface 96 (.pointer (some ⟨B, 0, none⟩))) (.slice none 0 0) ∧ Tab w' lo B ∧ R < lo ∧ Below R w w' := by
  have hR := block_lt_of_cell (w := w) (a := ⟨R, 0, none⟩) (v := .int .u32 0) (by rw [cell_of_row _ _ _ _ _ _ hRow]; rfl)
  have o0 := hO 0 _ rfl
  have hOl := block_lt_of_cell o0
  have hb := build_walk R O c w (by rw [cell_of_row _ _ _ _ _ _ hRow]; rfl) o0 (hO 1 _ rfl) (hO 2 _ rfl) (hO 3 _ rfl) (hO 4 _ rfl) (hO 5 _ rfl) (hO 6 _ rfl) (hO 7 _ rfl) (hO 8 _ rfl) (hO 9 _ rfl) hOl
  have hRow' : ∀ w', Inv w w.heap.size 5 w' → RowR w' R 0 1 .nilIface (.slice (some ⟨O, 0, none⟩) 10 c) := fun w' hI => (hI.1.block R hR).trans hRow
  clear hO o0
  go_enter Tryz.func15, Tryz.ntmps15
  go_wp2_with (go_at_call 25; refine hb.mono ?_; rintro e w1 ⟨rfl, hI⟩; have r1 := hRow' w1 hI; have k3 := (cell_of_row w1 R 3 _ _ _ r1); have k4 := (cell_of_row w1 R 4 _ _ _ r1); have z3 := frozen_of_row w1 R 3 _ _ r1; have z4 := frozen_of_row w1 R 4 _ _ r1; have HI : Hid _ := hI; have HR : Hid _ := r1; clear hI r1; simp at k3 k4)
  go_end0
  have rF : RowR ((w1.setCell ⟨R, 3, none⟩ (.iface 96 (.pointer (some ⟨w.heap.size + 1, 0, none⟩)))).setCell ⟨R, 4, none⟩ (.slice none 0 0)) R 0 1 (.iface 96 (.pointer (some ⟨w.heap.size + 1, 0, none⟩))) (.slice none 0 0) :=
    heap_setCell_same _ _ _ _ _ _ (heap_setCell_same _ _ _ _ _ _ HR.out)
  have hR' : R < w.heap.size := hR
  refine ⟨rfl, ⟨by rw [cell_of_row _ _ _ _ _ _ rF]; rfl, by rw [cell_of_row _ _ _ _ _ _ rF]; rfl, frozen_of_row _ _ _ _ _ rF, frozen_of_row _ _ _ _ _ rF⟩, w.heap.size, w.heap.size + 1, rF, (tab_of_inv HI.out).mono (fun b hb _ => ?_), hR, ((HI.out.1.mono (Nat.le_of_lt hR)).setCell (Nat.le_refl _) _).setCell (Nat.le_refl _) _⟩
  rw [heap_setCell_other _ _ _ _ (by show b ≠ R; omega), heap_setCell_other _ _ _ _ (by show b ≠ R; omega)]

/-- The first Replace of a new Replacer: the table is built, then asked. -/
theorem first_replace (R O c : Nat) (s : ByteArray) (w : World) (hRow : RowR w R 0 0 .nilIface (.slice (some ⟨O, 0, none⟩) 10 c)) (hO : ∀ j v, onV[j]? = some v → w.cell? ⟨O, j, none⟩ = some v) (hOR : O ≠ R) (r : ByteArray)
    (hrep : ∀ w lo B, Tab w lo B → Calls Tryz.prog 132 #[.pointer (some ⟨B, 0, none⟩), .string s] w fun e w' => e = .returned (.string r) ∧ Below w.heap.size w w') :
    Calls Tryz.prog 9 #[.pointer (some ⟨R, 0, none⟩), .string s] w fun e w' => e = .returned (.string r) ∧ Below R w w' := by
  have hR := block_lt_of_cell (w := w) (a := ⟨R, 0, none⟩) (v := .int .u32 0) (by rw [cell_of_row _ _ _ _ _ _ hRow]; rfl)
  have hk : OnceKept R 0 w := ⟨by rw [cell_of_row _ _ _ _ _ _ hRow]; rfl, by rw [cell_of_row _ _ _ _ _ _ hRow]; rfl, frozen_of_row _ _ _ _ _ hRow, frozen_of_row _ _ _ _ _ hRow⟩
  have hRow1 : RowR (w.setCell ⟨R, 1, none⟩ (.int .i32 1)) R 0 1 .nilIface (.slice (some ⟨O, 0, none⟩) 10 c) := heap_setCell_same _ _ _ _ _ _ hRow
  have hdo := do_call R w hk _ (once_walk R O c _ hRow1 (fun j v hj => (World.cell?_of_block (w := w) (heap_setCell_other _ _ _ _ hOR)).trans (hO j v hj)))
  have hmf : ∀ (fn : Fn) (first cap : Array Value) (w : World), (Instr.makeFunc fn first cap).run Tryz.prog w = .ok (.func fn first cap) w := fun _ _ _ _ => rfl
  have hend : ∀ w2 lo B, RowR w2 R 0 1 (.iface 96 (.pointer (some ⟨B, 0, none⟩))) (.slice none 0 0) → Tab w2 lo B → R < lo → Below R (w.setCell ⟨R, 1, none⟩ (.int .i32 1)) w2 → ∀ w3, w3 = (w2.drew.setCell ⟨R, 0, none⟩ (.int .u32 1)).setCell ⟨R, 1, none⟩ (.int .i32 0) →
      w3.cell? ⟨R, 3, none⟩ = some (.iface 96 (.pointer (some ⟨B, 0, none⟩))) ∧ Tab w3 lo B ∧ Below R w w3 ∧ R < w3.heap.size := by
    intro w2 lo B h1 h2 h3 h4 w3 h5
    have h1' : RowR w2.drew R 0 1 (.iface 96 (.pointer (some ⟨B, 0, none⟩))) (.slice none 0 0) := h1
    have r3 : RowR w3 R 1 0 (.iface 96 (.pointer (some ⟨B, 0, none⟩))) (.slice none 0 0) := by rw [h5]; exact heap_setCell_same _ _ _ _ _ _ (heap_setCell_same _ _ _ _ _ _ h1')
    refine ⟨by rw [cell_of_row _ _ _ _ _ _ r3]; rfl, h2.mono (fun b hb _ => ?_), ?_, block_lt_of_cell (w := w3) (a := ⟨R, 0, none⟩) (v := .int .u32 1) (by rw [cell_of_row _ _ _ _ _ _ r3]; rfl)⟩
    · rw [h5, heap_setCell_other _ _ _ _ (by show b ≠ R; omega), heap_setCell_other _ _ _ _ (by show b ≠ R; omega)]; rfl
    · rw [h5]
      exact ((((RowKit.Below.refl R w).setCell (p := ⟨R, 1, none⟩) (Nat.le_refl _) _).trans h4).drew.setCell (p := ⟨R, 0, none⟩) (Nat.le_refl _) _).setCell (p := ⟨R, 1, none⟩) (Nat.le_refl _) _
  have hm : ∀ (B : Nat) (w : World), (method 310 96 (.pointer (some ⟨B, 0, none⟩)) "Replace").run Tryz.prog w = .ok (132, .pointer (some ⟨B, 0, none⟩)) w := fun _ _ => by kernel_rfl
  clear hk hRow1 hO hRow
  go_enter Tryz.func9, Tryz.ntmps9
  go_wp2_with (first | (go_at_call 14; refine hdo.mono ?_; rintro e w3 ⟨rfl, w2, ⟨lo, B, h1, h2, h3, h4⟩, h5⟩; obtain ⟨k3, ht, hb, hsz⟩ := hend w2 lo B h1 h2 h3 h4 w3 h5; have HB : Hid _ := hb; have HT : Hid _ := ht; have HS : Hid _ := hsz; clear h1 h2 h3 h4 h5 hb ht hsz) | (go_at_call 132; refine (hrep _ _ _ HT.out).mono ?_; rintro e w4 ⟨rfl, hb4⟩))
  go_ret
  exact ⟨rfl, HB.out.trans (hb4.mono (Nat.le_of_lt HS.out))⟩
end Go.Proofs.YtmhmelmoionoiaaGreatDoor.On

/-
  strings.byteStringReplacer.Replace over the table: walked.
-/

namespace Go.Proofs.YtmhmelmoionoiaaGreatDoor.On
open Go.RowKit Go.Lib Go.Eng Go.Proofs

set_option maxHeartbeats 16000000
set_option maxRecDepth 100000

theorem count_one (s : ByteArray) (c : UInt8) (w : World) :
    Calls Tryz.prog 134 #[.string s, .string ⟨#[c]⟩] w fun e w' => e = .returned (.int .i64 (Lib.countByte s.data.toList c)) ∧ w' = w := by
  have hix : ∀ (c : UInt8) (h : 0 < (⟨#[c]⟩ : ByteArray).size), (⟨#[c]⟩ : ByteArray)[0]'h = c := fun _ _ => rfl
  go_enter Tryz.func134, Tryz.ntmps134
  go_wp2
  rw [run_callFunc_extern Tryz.func136 (by kernel_rfl) (by kernel_rfl) (by kernel_rfl) (e := Extern.BytealgCount.count) (by kernel_rfl), Lib.run_countString]
  simp only [Result.andThen, Int.toNat_natCast, back]
  rw [Oper.upon_value]
  go_wp2
  go_ret
  exact ⟨rfl, rfl⟩

theorem countByte_le (l : List UInt8) (c : UInt8) : Lib.countByte l c ≤ l.length := List.count_le_length
theorem sumK_le (l : Str) : ∀ k, sumK l k ≤ k * l.length
  | 0 => by simp [sumK]
  | k + 1 => by
    have := sumK_le l k
    have := countByte_le l (keyN k)
    simp only [sumK, Nat.add_mul]
    omega

/-- The world is as it was, but for what was drawn. -/
def Sd (w wr : World) : Prop := wr.heap = w.heap ∧ Below w.heap.size w wr
theorem Sd.refl (w : World) : Sd w w := ⟨rfl, RowKit.Below.refl _ _⟩
theorem Sd.drew {w wr : World} (h : Sd w wr) : Sd w wr.drew := ⟨h.1, h.2.drew⟩
theorem Sd.tab {w wr : World} {lo B : Nat} (h : Sd w wr) (ht : Tab w lo B) : Tab wr lo B := ht.mono (fun b _ _ => by rw [h.1])

theorem make_buf (m : Nat) (hm : m ≤ 6000) (w : World) : (Instr.makeSlice 92 (.int .i64 (m : Int)) (.int .i64 (m : Int))).run Tryz.prog w = .ok (.slice (some ⟨w.heap.size, 0, none⟩) m m) (w.alloc (.cells (List.replicate m (.int .u8 0)).toArray 5)) := by
  have hi : (Tryz.prog.info? 5).map (fun i => (i.zero, i.size, i.bytes)) = some (some (.int .u8 0), 1, 1) := by kernel_rfl
  cases hq : Tryz.prog.info? 5 with
  | none => simp [hq] at hi
  | some i =>
    simp only [hq, Option.map_some, Option.some.injEq, Prod.mk.injEq] at hi
    obtain ⟨hz, hs, hby⟩ := hi
    have := run_make (P := Tryz.prog) w 92 5 i _ Tryz.underlying92 hq hz .i64 .i64 m m (by omega) (by omega) (by rw [hby]; omega) (by omega)
    have hc : madeCells (Value.int .u8 0).cells (m * 1) = (List.replicate m (Value.int .u8 0)).toArray := by
      rw [Nat.mul_one, ← toList_madeCells_one]
      rfl
    rw [this, hs, Int.toNat_natCast, hc]

def b8 (c : UInt8) : Value := .int .u8 (c.toNat : Int)
def bufR (l : Str) (i m : Nat) : List Value := (quB (l.take i)).map b8 ++ List.replicate (m - (quB (l.take i)).length) (.int .u8 0)
/-- The state of the buffer's loop. -/
def BufI (l : Str) (m D : Nat) (w wr : World) (i : Nat) : Prop := Below D w wr ∧ D < wr.heap.size ∧ wr.heap[D]? = some (.cells (bufR l i m).toArray 5 (0, 0))
theorem buf_start (l : Str) (m : Nat) {w wr : World} (h : Sd w wr) : BufI l m w.heap.size w (wr.alloc (.cells (Array.replicate m (.int .u8 0)) 5)) 0 := by
  have hs : wr.heap.size = w.heap.size := by rw [h.1]
  refine ⟨h.2.alloc (by omega) _, by simp; omega, ?_⟩
  rw [← hs, heap_alloc_new]
  simp [bufR, quB]
theorem quB_le {l : Str} {i : Nat} : (quB (l.take i)).length ≤ (quB l).length := by
  conv => rhs; rw [← List.take_append_drop i l, quB_append, List.length_append]
  omega
theorem buf_len {l : Str} {i m : Nat} (hm : m = (quB l).length) : (bufR l i m).length = m := by
  have := quB_le (l := l) (i := i)
  simp [bufR]
  omega
theorem buf_room {l : Str} {i m : Nat} (hm : m = (quB l).length) (hi : i < l.length) : (quB (l.take i)).length + (qB l[i]).length ≤ m := by
  have h := quB_le (l := l) (i := i + 1)
  rw [quB_step hi, List.length_append] at h
  omega
theorem repl_split {α : Type} (a b : Nat) (x : α) : List.replicate (a + b) x = List.replicate a x ++ List.replicate b x := by simp
theorem buf_put {l : Str} {i m : Nat} (hm : m = (quB l).length) (hi : i < l.length) :
    (bufR l i m).take (quB (l.take i)).length ++ (qB l[i]).map b8 ++ (bufR l i m).drop ((quB (l.take i)).length + (qB l[i]).length) = bufR l (i + 1) m := by
  have hr := buf_room hm hi
  unfold bufR
  rw [quB_step hi]
  simp only [List.map_append, List.length_append]
  rw [List.take_append_of_le_length (by simp), List.take_of_length_le (by simp), List.drop_append, List.drop_of_length_le (by simp)]
  simp only [List.length_map, List.nil_append, List.drop_replicate, List.append_assoc]
  congr 3
  omega
theorem buf_one {l : Str} {i m D : Nat} {w wr : World} (h : BufI l m D w wr i) (hm : m = (quB l).length) (hi : i < l.length) (hr : repK 5 (l[i]).toNat = none) :
    wr.cell? ⟨D, (quB (l.take i)).length, none⟩ = some (.int .u8 0) ∧ wr.frozen? ⟨D, (quB (l.take i)).length, none⟩ = false ∧ (quB (l.take i)).length < m ∧ (quB (l.take (i + 1))).length = (quB (l.take i)).length + 1 ∧
    BufI l m D w (wr.setCell ⟨D, (quB (l.take i)).length, none⟩ (.int .u8 ((l[i]).toNat : Int))) (i + 1) := by
  obtain ⟨hb, hs, hrow⟩ := h
  have hq := (rep_none hr).1
  have hroom := buf_room hm hi
  rw [hq, List.length_singleton] at hroom
  have hput := buf_put hm hi
  rw [hq] at hput
  have hlen := buf_len (l := l) (i := i) hm
  refine ⟨?_, frozen_of_row _ _ _ _ _ hrow, by omega, by rw [quB_step hi, hq]; simp, hb.setCell (Nat.le_refl _) _, by simpa using hs, ?_⟩
  · rw [cell_of_row _ _ _ _ _ _ hrow]
    simp only [List.getElem?_toArray, bufR]
    rw [List.getElem?_append_right (by simp)]
    simp only [List.length_map, Nat.sub_self]
    rw [List.getElem?_replicate, if_pos (by omega)]
  · rw [heap_setCell_same _ _ _ _ _ _ hrow, ← hput]
    congr 2
    apply Array.ext'
    simp only [List.setIfInBounds_toArray]
    rw [List.set_eq_take_append_cons_drop, if_pos (by omega)]
    simp [b8]
theorem buf_two {l : Str} {i m D : Nat} {w wr : World} (h : BufI l m D w wr i) (hm : m = (quB l).length) (hi : i < l.length) {bs : List UInt8} (hr : repK 5 (l[i]).toNat = some bs) (b' c' : Nat)
    (hsrc : ∀ (j : Nat) x, bs[j]? = some x → wr.cell? ⟨b', j, none⟩ = some (.int .u8 (x.toNat : Int))) :
    (quB (l.take i)).length + 2 ≤ m ∧ (quB (l.take (i + 1))).length = (quB (l.take i)).length + 2 ∧ ∃ wn, BufI l m D w wn (i + 1) ∧
    ∀ ty, (Builtin.copy_ #[92, 92] ty #[.slice (some ⟨D, (quB (l.take i)).length, none⟩) (m - (quB (l.take i)).length) (m - (quB (l.take i)).length), .slice (some ⟨b', 0, none⟩) 2 c']).run Tryz.prog wr = .ok (.int .i64 2) wn := by
  obtain ⟨hb, hs, hrow⟩ := h
  obtain ⟨hq, hq2, _⟩ := rep_some hr
  have hroom := buf_room hm hi
  rw [hq, hq2] at hroom
  have hput := buf_put hm hi
  rw [hq] at hput
  have hlen := buf_len (l := l) (i := i) hm
  have hcl : ((bs.map b8).length) = 2 := by simp [hq2]
  refine ⟨hroom, by rw [quB_step hi, hq]; simp [hq2], wr.setRow D (((bufR l i m).toArray.toList.take (quB (l.take i)).length ++ bs.map b8 ++ (bufR l i m).toArray.toList.drop ((quB (l.take i)).length + 2)).toArray), ⟨?_, ?_, ?_⟩, fun ty => ?_⟩
  rotate_left 3
  · have := run_copy_row (P := Tryz.prog) wr 92 92 ty 5 D (quB (l.take i)).length (m - (quB (l.take i)).length) (m - (quB (l.take i)).length) ⟨b', 0, none⟩ 2 c' _ 5 (bs.map b8) Tryz.underlying92 (by kernel_rfl) hrow (by rw [hcl]; exact (Nat.min_eq_left (by omega)).symm) (fun j v hj => by
      rw [Addr.add_lit, Nat.zero_add]
      rw [List.getElem?_map] at hj
      cases hx : bs[j]? with
      | none => rw [hx] at hj; simp at hj
      | some x => rw [hx] at hj; simp only [Option.map_some, Option.some.injEq] at hj; rw [← hj]; exact hsrc j x hx) (by rw [hcl]; simp only [List.size_toArray]; omega) (by intro v hv; rw [List.mem_map] at hv; obtain ⟨x, _, rfl⟩ := hv; rfl)
    rw [hcl] at this
    exact this
  · exact below_setRow hb (Nat.le_refl _) _
  · simpa using hs
  · rw [setRow_heap _ _ _ _ _ _ hrow, ← hput, hq2]
theorem buf_back {l : Str} {m D : Nat} {w wr : World} (h : BufI l m D w wr l.length) (hm : m = (quB l).length) :
    (convert 92 9 (.slice (some ⟨D, 0, none⟩) m m)).run Tryz.prog wr = .ok (.string ⟨(quB l).toArray⟩) wr := by
  obtain ⟨hb, hs, hrow⟩ := h
  subst hm
  refine run_convert_bytes_back (P := Tryz.prog) wr 92 9 5 ⟨D, 0, none⟩ _ (quB l) Tryz.underlying92 Tryz.underlying5 Tryz.underlying9 (fun j hj => ?_)
  rw [Addr.add_lit, Nat.zero_add, cell_of_row _ _ _ _ _ _ hrow]
  simp only [bufR, List.take_length, Nat.sub_self, List.replicate_zero, List.append_nil, List.getElem?_toArray, List.getElem?_map, List.getElem?_eq_getElem hj]
  rfl

theorem replace_walk (s : ByteArray) (hs : s.size ≤ 1000) (w : World) (lo B : Nat) (ht : Tab w lo B) :
    Calls Tryz.prog 132 #[.pointer (some ⟨B, 0, none⟩), .string s] w fun e w' => e = .returned (.string ⟨(quB s.data.toList).toArray⟩) ∧ Below w.heap.size w w' := by
  obtain ⟨h1, hz, ⟨S, hS, hT, hK⟩, hO⟩ := ht
  have HK : Hid _ := hK
  have HO : Hid _ := hO
  have hsz : s.data.toList.length = s.size := by simp
  have hix : ∀ (c : UInt8) (h : 0 < (⟨#[c]⟩ : ByteArray).size), (⟨#[c]⟩ : ByteArray)[0]'h = c := fun _ _ => rfl
  clear hO hK hS h1 hz
  go_enter Tryz.func132, Tryz.ntmps132
  by_cases h40 : (40 : Int) ≤ (s.size : Int)
  · go_wp2
    clear hT
    go_loopw [32, 5, 6] (fun iv nv av wr => ∃ k m : Nat, k ≤ 5 ∧ iv = .int .i64 (k : Int) ∧ nv = .int .i64 (m : Int) ∧ m = s.size + sumK s.data.toList k ∧ av = .bool (! (sumK s.data.toList k == 0)) ∧ Hid (Sd w wr)) (fun iv _ _ _ => (5 - RowKit.intOf iv).toNat)
    case atStart => exact ⟨0, s.size, by omega, rfl, rfl, rfl, rfl, Sd.refl w⟩
    case round =>
      obtain ⟨k, m, hk, rfl, rfl, hm, rfl, hsd⟩ := hrel
      have hcell : ∀ a, wr.cell? a = w.cell? a := fun a => World.cell?_of_block (w := w) (by rw [hsd.out.1])
      rcases Nat.lt_or_ge k 5 with hk5 | hk5
      · have hlt := (keyN k).toNat_lt
        obtain ⟨v, hv, hr⟩ := HO.out _ hlt
        have hrk : repK 5 (keyN k).toNat = some (valN k) := by match k, hk5 with | 0, _ => rfl | 1, _ => rfl | 2, _ => rfl | 3, _ => rfl | 4, _ => rfl
        have hv2 : (valN k).length = 2 := by match k, hk5 with | 0, _ => rfl | 1, _ => rfl | 2, _ => rfl | 3, _ => rfl | 4, _ => rfl
        rw [hrk] at hr
        obtain ⟨b', c', rfl, _, _⟩ := hr
        rw [hv2, ← hcell] at hv
        have hKk := (hcell _).trans (HK.out k hk5)
        have hsk : sumK s.data.toList (k + 1) = sumK s.data.toList k + Lib.countByte s.data.toList (keyN k) := rfl
        have hcl := countByte_le s.data.toList (keyN k)
        have hsl := sumK_le s.data.toList k
        have hsl2 : k * s.data.toList.length ≤ 5 * s.data.toList.length := Nat.mul_le_mul_right _ hk
        rw [hsz] at hcl
        have hml : m ≤ 6000 := by omega
        have HSK : Hid _ := hsk
        have HM : Hid _ := hm
        clear hsk hsl hsl2 hcell hrk
        by_cases hc : Lib.countByte s.data.toList (keyN k) = 0
        · clear hm
          go_wp2_with (go_at_call 134; refine (count_one _ _ _).mono ?_; rintro e w' ⟨rfl, hw⟩; subst hw; rw [hc])
          have h1 := HSK.out
          have h2 := HM.out
          rw [hc] at h1
          exact ⟨⟨k + 1, m, hk5, rfl, rfl, by omega, by rw [h1]; rfl, hsd⟩, by simp [RowKit.intOf]; omega⟩
        · have hcb : (((Lib.countByte s.data.toList (keyN k) : Nat) : Int) != 0) = true := by simp [hc]
          clear hm
          generalize hcv : Lib.countByte s.data.toList (keyN k) = cv at *
          have HCV : Hid _ := hcv
          clear hcv
          go_wp2_with (go_at_call 134; refine (count_one _ _ _).mono ?_; rintro e w' ⟨rfl, hw⟩; subst hw; rw [HCV.out])
          go_region
          go_wp2
          have h1 := HSK.out
          have h2 := HM.out
          have h3 := HCV.out
          exact ⟨⟨k + 1, m + cv, hk5, rfl, rfl, by omega, by rw [h1]; congr 1; simp; omega, hsd.out.drew⟩, by simp [RowKit.intOf]; omega⟩
      · obtain rfl : k = 5 := by omega
        have hsl := sumK_le s.data.toList 5
        have hml : m ≤ 6000 := by omega
        rw [sumK_cnt] at hm
        have HM : Hid _ := hm
        clear hcell hm hsl
        have hrun : Hid (Sd w wr) := hsd
        have hDs : wr.heap.size = w.heap.size := by rw [hrun.out.1]
        have hfr : Hid (∀ o, o < 256 → ∃ v, w.cell? ⟨B, o, none⟩ = some v ∧ RepAt w lo v (repK 5 o)) := HO
        by_cases hc0 : cnt s.data.toList = 0
        · have hany : (!sumK s.data.toList 5 == 0) = false := by simp [hc0, sumK_cnt]
          have hq := quB_calm _ hc0
          clear hc0
          go_wp2
          go_ret
          exact ⟨by rw [hq]; show Ending.returned (.string s) = Ending.returned (.string ⟨s.data.toList.toArray⟩); simp, hrun.out.2⟩
        · have hany : (!sumK s.data.toList 5 == 0) = true := by simp [hc0, sumK_cnt]
          have hcl := quB_cnt s.data.toList
          have HCL : Hid _ := hcl
          have hmk := make_buf m (by omega) wr
          clear hc0 hcl
          go_wp2
          go_loopw [14, 13] (fun iv jv wn => ∃ i j : Nat, i ≤ s.data.toList.length ∧ iv = .int .i64 (i : Int) ∧ jv = .int .i64 (j : Int) ∧ Hid (j = (quB (s.data.toList.take i)).length) ∧ Hid (BufI s.data.toList m w.heap.size w wn i)) (fun iv _ _ => (s.data.toList.length - RowKit.intOf iv).toNat)
          case atStart => exact ⟨0, 0, by omega, rfl, rfl, rfl, buf_start _ _ hrun.out⟩
          case round =>
            obtain ⟨i, j, hi, rfl, rfl, hj, hbuf⟩ := hrel
            rcases Nat.lt_or_ge i s.data.toList.length with hlt | hge
            · have hil : i < s.size := by omega
              obtain ⟨c, hc⟩ : ∃ c, c = s.data.toList[i] := ⟨_, rfl⟩
              have hcx : ∀ h : i < s.size, s[i]'h = c := fun h => by rw [hc]; rfl
              have hc256 := c.toNat_lt
              have hmq : m = (quB s.data.toList).length := by have := HM.out; have := HCL.out; omega
              obtain ⟨v, hv0, hr⟩ := HO.out c.toNat hc256
              have hbel := hbuf.out.1
              have hv : wr.cell? ⟨B, c.toNat, none⟩ = some v := by rw [hbel.cell (block_lt_of_cell hv0)]; exact hv0
              cases hrep : repK 5 c.toNat with
              | none =>
                rw [hrep] at hr
                obtain rfl : v = .slice none 0 0 := hr
                obtain ⟨f1, f2, f3, f4, fN⟩ := buf_one hbuf.out hmq hlt (by rw [← hc]; exact hrep)
                rw [← hj.out] at f1 f2 f3 f4 fN
                rw [← hc] at fN
                have FN : Hid _ := fN
                have F4 : Hid _ := f4
                have heqn := run_neq_slice_nil (P := Tryz.prog) wr 92 5 none 0 0 Tryz.underlying92
                clear fN f4 hc hmq hrep hbel hv0 hmk
                go_wp2
                exact ⟨⟨i + 1, j + 1, hlt, rfl, rfl, F4.out.symm, FN.out⟩, by simp [RowKit.intOf]; omega⟩
              | some bs =>
                rw [hrep] at hr
                obtain ⟨b', c', rfl, _, hsrc0⟩ := hr
                have hb2 := (rep_some hrep).2.1
                have hsrc : ∀ (j : Nat) x, bs[j]? = some x → wr.cell? ⟨b', j, none⟩ = some (.int .u8 (x.toNat : Int)) := fun j x hx => by rw [hbel.cell (block_lt_of_cell (hsrc0 j x hx))]; exact hsrc0 j x hx
                obtain ⟨f1, f4, wn, fN, fcopy⟩ := buf_two (wr := wr.drew) ⟨hbuf.out.1.drew, hbuf.out.2.1, hbuf.out.2.2⟩ hmq hlt (by rw [← hc]; exact hrep) b' c' hsrc
                rw [← hj.out] at f1 f4 fcopy
                rw [hb2] at hv
                have FN : Hid _ := fN
                have F4 : Hid _ := f4
                have heqn := run_neq_slice_nil (P := Tryz.prog) wr 92 5 (some ⟨b', 0, none⟩) 2 c' Tryz.underlying92
                clear fN f4 hc hmq hrep hbel hv0 hmk hsrc0 hsrc hb2
                go_wp2
                go_region
                go_wp2
                exact ⟨⟨i + 1, j + 2, hlt, rfl, rfl, F4.out.symm, FN.out⟩, by simp [RowKit.intOf]; omega⟩
            · obtain rfl : i = s.data.toList.length := by omega
              have hmq : m = (quB s.data.toList).length := by have := HM.out; have := HCL.out; omega
              have hcv := buf_back hbuf.out hmq
              clear hmq
              go_wp2
              go_ret
              exact ⟨rfl, hbuf.out.1⟩
  · go_wp2
    clear hT
    go_loop [10, 5, 6] (fun iv nv av => ∃ i m : Nat, i ≤ s.data.toList.length ∧ iv = .int .i64 (i : Int) ∧ nv = .int .i64 (m : Int) ∧ m = s.size + cnt (s.data.toList.take i) ∧ av = .bool (! (cnt (s.data.toList.take i) == 0))) (fun iv _ _ => (s.data.toList.length - RowKit.intOf iv).toNat)
    case atStart => exact ⟨0, s.size, by omega, rfl, rfl, rfl, rfl⟩
    case round =>
      obtain ⟨i, m, hi, rfl, rfl, hm, rfl⟩ := hrel
      have hcm := cnt_mono (l := s.data.toList) i
      have hml : m ≤ 6000 := by
        have h1 := quB_len s.data.toList
        have h2 := quB_cnt s.data.toList
        omega
      rcases Nat.lt_or_ge i s.data.toList.length with hlt | hge
      · have hil : i < s.size := by omega
        obtain ⟨c, hc⟩ : ∃ c, c = s.data.toList[i] := ⟨_, rfl⟩
        have hcx : ∀ h : i < s.size, s[i]'h = c := fun h => by rw [hc]; rfl
        have hc256 := c.toNat_lt
        have hstep := cnt_step hlt
        rw [← hc] at hstep
        have HS : Hid _ := hstep
        have HM : Hid _ := hm
        obtain ⟨v, hv, hr⟩ := HO.out c.toNat hc256
        cases hrep : repK 5 c.toNat with
        | none =>
          rw [hrep] at hr
          obtain rfl : v = .slice none 0 0 := hr
          have hq := (rep_none hrep).2
          have heqn := run_neq_slice_nil (P := Tryz.prog) w 92 5 none 0 0 Tryz.underlying92
          clear hstep hm hrep hc hcm
          go_wp2
          have h1 := HS.out
          rw [hq] at h1
          have h2 := HM.out
          exact ⟨⟨i + 1, m, hlt, rfl, rfl, by rw [h1]; exact h2, by rw [h1]; rfl⟩, by simp [RowKit.intOf]; omega⟩
        | some bs =>
          rw [hrep] at hr
          obtain ⟨b', c', rfl, _, _⟩ := hr
          obtain ⟨_, hb2, hq⟩ := rep_some hrep
          rw [hb2] at hv
          have heqn := run_neq_slice_nil (P := Tryz.prog) w 92 5 (some ⟨b', 0, none⟩) 2 c' Tryz.underlying92
          clear hstep hm hrep hc hb2 hcm
          go_wp2
          have h1 := HS.out
          rw [hq] at h1
          have h2 := HM.out
          exact ⟨⟨i + 1, m + 1, hlt, rfl, rfl, by rw [h1]; simp only [cond_true]; omega, by rw [h1]; simp⟩, by simp [RowKit.intOf]; omega⟩
      · obtain rfl : i = s.data.toList.length := by omega
        rw [List.take_length] at hm ⊢
        have HM : Hid _ := hm
        clear hm
        have hrun : Hid (Sd w w) := Sd.refl w
        have hfr : Hid (∀ o, o < 256 → ∃ v, w.cell? ⟨B, o, none⟩ = some v ∧ RepAt w lo v (repK 5 o)) := HO
        by_cases hc0 : cnt s.data.toList = 0
        · have hany : (!cnt s.data.toList == 0) = false := by simp [hc0]
          have hq := quB_calm _ hc0
          clear hc0
          go_wp2
          go_ret
          exact ⟨rfl, hrun.out.2⟩
        · have hany : (!cnt s.data.toList == 0) = true := by simp [hc0]
          have hcl := quB_cnt s.data.toList
          have HCL : Hid _ := hcl
          have hmk := make_buf m (by omega) w
          clear hc0 hcl
          go_wp2
          go_loopw [14, 13] (fun iv jv wn => ∃ i j : Nat, i ≤ s.data.toList.length ∧ iv = .int .i64 (i : Int) ∧ jv = .int .i64 (j : Int) ∧ Hid (j = (quB (s.data.toList.take i)).length) ∧ Hid (BufI s.data.toList m w.heap.size w wn i)) (fun iv _ _ => (s.data.toList.length - RowKit.intOf iv).toNat)
          case atStart => exact ⟨0, 0, by omega, rfl, rfl, rfl, buf_start _ _ hrun.out⟩
          case round =>
            obtain ⟨i, j, hi, rfl, rfl, hj, hbuf⟩ := hrel
            rcases Nat.lt_or_ge i s.data.toList.length with hlt | hge
            · have hil : i < s.size := by omega
              obtain ⟨c, hc⟩ : ∃ c, c = s.data.toList[i] := ⟨_, rfl⟩
              have hcx : ∀ h : i < s.size, s[i]'h = c := fun h => by rw [hc]; rfl
              have hc256 := c.toNat_lt
              have hmq : m = (quB s.data.toList).length := by have := HM.out; have := HCL.out; omega
              obtain ⟨v, hv0, hr⟩ := HO.out c.toNat hc256
              have hbel := hbuf.out.1
              have hv : wr.cell? ⟨B, c.toNat, none⟩ = some v := by rw [hbel.cell (block_lt_of_cell hv0)]; exact hv0
              cases hrep : repK 5 c.toNat with
              | none =>
                rw [hrep] at hr
                obtain rfl : v = .slice none 0 0 := hr
                obtain ⟨f1, f2, f3, f4, fN⟩ := buf_one hbuf.out hmq hlt (by rw [← hc]; exact hrep)
                rw [← hj.out] at f1 f2 f3 f4 fN
                rw [← hc] at fN
                have FN : Hid _ := fN
                have F4 : Hid _ := f4
                have heqn := run_neq_slice_nil (P := Tryz.prog) wr 92 5 none 0 0 Tryz.underlying92
                clear fN f4 hc hmq hrep hbel hv0 hmk
                go_wp2
                exact ⟨⟨i + 1, j + 1, hlt, rfl, rfl, F4.out.symm, FN.out⟩, by simp [RowKit.intOf]; omega⟩
              | some bs =>
                rw [hrep] at hr
                obtain ⟨b', c', rfl, _, hsrc0⟩ := hr
                have hb2 := (rep_some hrep).2.1
                have hsrc : ∀ (j : Nat) x, bs[j]? = some x → wr.cell? ⟨b', j, none⟩ = some (.int .u8 (x.toNat : Int)) := fun j x hx => by rw [hbel.cell (block_lt_of_cell (hsrc0 j x hx))]; exact hsrc0 j x hx
                obtain ⟨f1, f4, wn, fN, fcopy⟩ := buf_two (wr := wr.drew) ⟨hbuf.out.1.drew, hbuf.out.2.1, hbuf.out.2.2⟩ hmq hlt (by rw [← hc]; exact hrep) b' c' hsrc
                rw [← hj.out] at f1 f4 fcopy
                rw [hb2] at hv
                have FN : Hid _ := fN
                have F4 : Hid _ := f4
                have heqn := run_neq_slice_nil (P := Tryz.prog) wr 92 5 (some ⟨b', 0, none⟩) 2 c' Tryz.underlying92
                clear fN f4 hc hmq hrep hbel hv0 hmk hsrc0 hsrc hb2
                go_wp2
                go_region
                go_wp2
                exact ⟨⟨i + 1, j + 2, hlt, rfl, rfl, F4.out.symm, FN.out⟩, by simp [RowKit.intOf]; omega⟩
            · obtain rfl : i = s.data.toList.length := by omega
              have hmq : m = (quB s.data.toList).length := by have := HM.out; have := HCL.out; omega
              have hcv := buf_back hbuf.out hmq
              clear hmq
              go_wp2
              go_ret
              exact ⟨rfl, hbuf.out.1⟩
end Go.Proofs.YtmhmelmoionoiaaGreatDoor.On

/-
  strings.NewReplacer's table at five bytes, built: walked.
-/
import Derived.Test.YtmhmelmoionoiaaGreatDoorLib
import Derived.Test.YtmhmelmoionoiaaGreatDoorChecked
import Derived.Lib.Walk
import Derived.WalkKit
import Derived.BigCall
import Derived.BigGuard
import Derived.Laws.CopyRow
import Derived.Laws.MakeOwn
import Derived.Laws.OwnMore
import Derived.Deep.WholeRow
import Derived.Deep.RegionLaw
import Derived.LoopN
import Derived.LoopTactic
import Derived.Laws.NewBlocks
import Derived.Laws.IdiomStrings
import Derived.Lib.ConvBytes
import Derived.Lib.LazyBuf
import Derived.Below
namespace Go.Proofs.YtmhmelmoionoiaaGreatDoor.On
open Go.RowKit Go.Lib Go.Eng Go.Proofs

set_option maxHeartbeats 16000000
set_option maxRecDepth 100000

/-- The ten texts. -/
def onT : List (List UInt8) := [[34], [92, 34], [92], [92, 92], [10], [92, 110], [9], [92, 116], [36], [92, 36]]

/-- The replacer's cells: 256 slices, and the list of what is replaced. -/
noncomputable def bsr (v : Value) : Array Value := Tryz.zeroCells95.setIfInBounds 256 v

theorem build_bsr (a : Addr) (w : World) : (Instr.build 95 #[(1, .slice (some a) 0 5)]).run Tryz.prog w = .ok (.agg (bsr (.slice (some a) 0 5))) w := by
  have hf : Instr.fill (fun x => ([(0, 256), (256, 1)] : List (Nat × Nat))[x]?) Tryz.zeroCells95 [(1, .slice (some a) 0 5)] = some (bsr (.slice (some a) 0 5)) := by kernel_rfl
  simp [Instr.build, Tryz.zeroValue95, run_underlying Tryz.underlying95, Tryz.sizeOf93, Tryz.sizeOf48, hf, Value.cells]

theorem make_five (w : World) : (Instr.makeSlice 48 (.int .i64 0) (.int .i64 5)).run Tryz.prog w = .ok (.slice (some ⟨w.heap.size, 0, none⟩) 0 5) (w.alloc (.cells #[.string ⟨#[]⟩, .string ⟨#[]⟩, .string ⟨#[]⟩, .string ⟨#[]⟩, .string ⟨#[]⟩] 9)) := by
  have hi : (Tryz.prog.info? 9).map (fun i => (i.zero, i.size, i.bytes)) = some (some (.string ⟨#[]⟩), 1, 16) := by kernel_rfl
  cases hq : Tryz.prog.info? 9 with
  | none => simp [hq] at hi
  | some i =>
    simp only [hq, Option.map_some, Option.some.injEq, Prod.mk.injEq] at hi
    obtain ⟨hz, hs, hby⟩ := hi
    have := run_make (P := Tryz.prog) w 48 9 i _ Tryz.underlying48 hq hz .i64 .i64 0 5 (by omega) (by omega) (by rw [hby]; omega) (by omega)
    rw [this, hs, show madeCells (Value.string { data := #[] }).cells (Int.toNat 5 * 1) = #[.string ⟨#[]⟩, .string ⟨#[]⟩, .string ⟨#[]⟩, .string ⟨#[]⟩, .string ⟨#[]⟩] by kernel_rfl]
    rfl

/-- What stands in the table's place for a byte: nothing, or a slice of its own with these bytes. -/
def RepAt (w : World) (lo : Nat) (v : Value) : Option (List UInt8) → Prop
  | none => v = .slice none 0 0
  | some bs => ∃ b c, v = .slice (some ⟨b, 0, none⟩) bs.length c ∧ lo ≤ b ∧ ∀ (j : Nat) x, bs[j]? = some x → w.cell? ⟨b, j, none⟩ = some (.int .u8 (x.toNat : Int))

def keyN : Nat → UInt8 | 0 => 36 | 1 => 9 | 2 => 10 | 3 => 92 | _ => 34
def valN : Nat → List UInt8 | 0 => [92, 36] | 1 => [92, 116] | 2 => [92, 110] | 3 => [92, 92] | _ => [92, 34]
def repK : Nat → Nat → Option (List UInt8)
  | 0, _ => none
  | k + 1, o => if o = (keyN k).toNat then some (valN k) else repK k o
def s5 : Nat → List Value
  | 0 => [.string ⟨#[]⟩, .string ⟨#[]⟩, .string ⟨#[]⟩, .string ⟨#[]⟩, .string ⟨#[]⟩]
  | k + 1 => (s5 k).set k (.string ⟨#[keyN k]⟩)

/-- The state behind k rounds. -/
def Inv (w0 : World) (hs : Nat) (k : Nat) (w : World) : Prop :=
  Below hs w0 w ∧ hs + 1 < w.heap.size ∧ w.heap[hs]? = some (.cells (s5 k).toArray 9 (0, 0)) ∧ ∃ C : Array Value, w.heap[hs + 1]? = some (.cells C 95 (0, 0)) ∧ C.size = 257 ∧
    C[256]? = some (.slice (some ⟨hs, 0, none⟩) k 5) ∧ ∀ o, o < 256 → ∃ v, C[o]? = some v ∧ RepAt w (hs + 2) v (repK k o)

def wB (wr : World) (key : UInt8) (z : Int) : World := (wr.alloc (.cells #[.int .u8 z] 5)).alloc (.cells #[.string ⟨#[key]⟩] 9)
theorem repAt_mono {w w' : World} {lo : Nat} {v : Value} {r : Option (List UInt8)} (h : RepAt w lo v r) (hk : ∀ b, lo ≤ b → b < w.heap.size → w'.heap[b]? = w.heap[b]?) (hne : ∀ bs, r = some bs → bs ≠ []) : RepAt w' lo v r := by
  cases r with
  | none => exact h
  | some bs =>
    obtain ⟨b, c, hv, hb, hc⟩ := h
    refine ⟨b, c, hv, hb, fun j x hx => ?_⟩
    have h1 := hc j x hx
    rw [← h1]
    exact World.cell?_of_block (hk b hb (block_lt_of_cell h1))
theorem repK_ne : ∀ k o bs, repK k o = some bs → bs ≠ []
  | 0, _, _, h => by simp [repK] at h
  | k + 1, o, bs, h => by
    unfold repK at h
    split at h
    · simp only [Option.some.injEq] at h
      subst h
      match k with
      | 0 => simp [valN]
      | 1 => simp [valN]
      | 2 => simp [valN]
      | 3 => simp [valN]
      | k + 4 => simp [valN]
    · exact repK_ne k o bs h

/-- One round, as the heap sees it. -/
theorem step_inv (w0 wr wC wD wE wF : World) (hs k o : Nat) (z : Int) (key x : UInt8) (hkk : k < 5) (hkey : keyN k = key) (hval : valN k = [92, x]) (ho : key.toNat = o) (hI : Inv w0 hs k wr)
    (hC : wC = (wB wr key z).setCell ⟨hs, k, none⟩ (.string ⟨#[key]⟩)) (hD : wD = wC.setCell ⟨hs + 1, 256, none⟩ (.slice (some ⟨hs, 0, none⟩) (k + 1) 5))
    (hE : wE = bytesWorld wD 5 ⟨#[92, x]⟩) (hF : wF = wE.setCell ⟨hs + 1, o, none⟩ (.slice (some ⟨wr.heap.size + 2, 0, none⟩) 2 (grownCap wD 2 0 5))) (hnone : repK k o = none) :
    (wB wr key z).cell? ⟨hs, k, none⟩ = some (.string ⟨#[]⟩) ∧ (wB wr key z).frozen? ⟨hs, k, none⟩ = false ∧ wC.cell? ⟨hs + 1, 256, none⟩ = some (.slice (some ⟨hs, 0, none⟩) k 5) ∧ wC.frozen? ⟨hs + 1, 256, none⟩ = false ∧
    wE.cell? ⟨hs + 1, o, none⟩ = some (.slice none 0 0) ∧ wE.frozen? ⟨hs + 1, o, none⟩ = false ∧ Inv w0 hs (k + 1) wF := by
  obtain ⟨hB, hsz, hS, C, hC0, hCs, hCl, hCo⟩ := hI
  have ho256 : o < 256 := by rw [← ho]; exact key.toNat_lt
  have bS : (wB wr key z).heap[hs]? = some (.cells (s5 k).toArray 9 (0, 0)) := by
    unfold wB; rw [RowKit.Below.heap_alloc _ _ _ (by simp; omega), RowKit.Below.heap_alloc _ _ _ (by omega)]; exact hS
  have bC : (wB wr key z).heap[hs + 1]? = some (.cells C 95 (0, 0)) := by
    unfold wB; rw [RowKit.Below.heap_alloc _ _ _ (by simp; omega), RowKit.Below.heap_alloc _ _ _ (by omega)]; exact hC0
  have bsz : (wB wr key z).heap.size = wr.heap.size + 2 := by simp [wB]
  have bo : ∀ b, b < wr.heap.size → (wB wr key z).heap[b]? = wr.heap[b]? := fun b hb => by
    unfold wB; rw [RowKit.Below.heap_alloc _ _ _ (by simp; omega), RowKit.Below.heap_alloc _ _ _ (by omega)]
  have hS5 : ((s5 k).toArray.setIfInBounds k (.string ⟨#[key]⟩)) = (s5 (k + 1)).toArray := by subst hkey; match k, hkk with | 0, _ => rfl | 1, _ => rfl | 2, _ => rfl | 3, _ => rfl | 4, _ => rfl
  have cS : wC.heap[hs]? = some (.cells (s5 (k + 1)).toArray 9 (0, 0)) := by rw [hC, heap_setCell_same _ _ _ _ _ _ bS, hS5]
  have cC : wC.heap[hs + 1]? = some (.cells C 95 (0, 0)) := by rw [hC, heap_setCell_other _ _ _ _ (by simp)]; exact bC
  have csz : wC.heap.size = wr.heap.size + 2 := by rw [hC]; simp [bsz]
  have dC : wD.heap[hs + 1]? = some (.cells (C.setIfInBounds 256 (.slice (some ⟨hs, 0, none⟩) (k + 1) 5)) 95 (0, 0)) := by rw [hD, heap_setCell_same _ _ _ _ _ _ cC]
  have dS : wD.heap[hs]? = some (.cells (s5 (k + 1)).toArray 9 (0, 0)) := by rw [hD, heap_setCell_other _ _ _ _ (by simp)]; exact cS
  have dsz : wD.heap.size = wr.heap.size + 2 := by rw [hD]; simp [csz]
  have eO : ∀ b, b < wr.heap.size + 2 → wE.heap[b]? = wD.heap[b]? := fun b hb => by rw [hE]; exact bytesWorld_at_old _ _ _ _ (by omega)
  have eC := (eO (hs + 1) (by omega)).trans dC
  have esz : wE.heap.size = wr.heap.size + 3 := by rw [hE, bytesWorld_size, dsz]
  have hne : o ≠ 256 := by omega
  obtain ⟨v, hv, hr⟩ := hCo o ho256
  rw [hnone] at hr
  obtain rfl : v = .slice none 0 0 := hr
  have dOld : ∀ b, b < wr.heap.size → b ≠ hs → b ≠ hs + 1 → wF.heap[b]? = wr.heap[b]? := fun b hb h1 h2 => by
    rw [hF, heap_setCell_other _ _ _ _ h2, eO b (by omega), hD, heap_setCell_other _ _ _ _ h2, hC, heap_setCell_other _ _ _ _ h1, bo b hb]
  have cellv : wE.cell? ⟨hs + 1, o, none⟩ = some (.slice none 0 0) := by
    rw [cell_of_row _ _ _ _ _ _ eC, Array.getElem?_setIfInBounds, if_neg (by omega)]; exact hv
  refine ⟨?_, frozen_of_row _ _ _ _ _ bS, ?_, frozen_of_row _ _ _ _ _ cC, cellv, frozen_of_row _ _ _ _ _ eC, ?_⟩
  · rw [cell_of_row _ _ _ _ _ _ bS]; match k, hkk with | 0, _ => rfl | 1, _ => rfl | 2, _ => rfl | 3, _ => rfl | 4, _ => rfl
  · rw [cell_of_row _ _ _ _ _ _ cC]; exact hCl
  · refine ⟨?_, ?_, ?_, ((C.setIfInBounds 256 (.slice (some ⟨hs, 0, none⟩) (k + 1) 5)).setIfInBounds o (.slice (some ⟨wr.heap.size + 2, 0, none⟩) 2 (grownCap wD 2 0 5))), ?_, ?_, ?_, ?_⟩
    · refine hB.trans ?_
      rw [hF, hE, hD, hC]
      refine ⟨rfl, rfl, rfl, ?_, fun b hb => ?_⟩
      · have := esz; rw [hE, hD, hC] at this; simp only [World.setCell, Array.size_modify]; simp only [World.setCell] at this; omega
      · have := dOld b (by omega) (by omega) (by omega); rw [hF, hE, hD, hC] at this; exact this
    · rw [hF]; simp [esz]; omega
    · rw [hF, heap_setCell_other _ _ _ _ (by simp), eO hs (by omega)]; exact dS
    · rw [hF]; exact heap_setCell_same _ _ _ _ _ _ eC
    · simp [hCs]
    · rw [Array.getElem?_setIfInBounds, if_neg (by omega), Array.getElem?_setIfInBounds, if_pos rfl]; simp [hCs]
    · intro o' ho'
      by_cases he : o' = o
      · subst he
        refine ⟨.slice (some ⟨wr.heap.size + 2, 0, none⟩) 2 (grownCap wD 2 0 5), by rw [Array.getElem?_setIfInBounds, if_pos rfl]; simp [hCs]; omega, ?_⟩
        show RepAt wF (hs + 2) _ (repK (k + 1) o')
        have : repK (k + 1) o' = some [92, x] := by simp [repK, hkey, ho, hval]
        rw [this]
        refine ⟨wr.heap.size + 2, _, rfl, by omega, fun j y hy => ?_⟩
        have hj : j < 2 := by
          have := (List.getElem?_eq_some_iff.1 hy).1
          simpa using this
        rw [hF, World.cell?_of_block (w := wE) (heap_setCell_other _ _ _ _ (by simp; omega)), hE, ← dsz, bytesWorld_cell _ _ _ _ (show j < 2 from hj)]
        match j, hj with
        | 0, _ => simp at hy; subst hy; rfl
        | 1, _ => simp at hy; subst hy; rfl
      · obtain ⟨v', hv', hr'⟩ := hCo o' ho'
        refine ⟨v', by rw [Array.getElem?_setIfInBounds, if_neg (by omega), Array.getElem?_setIfInBounds, if_neg (by omega)]; exact hv', ?_⟩
        have : repK (k + 1) o' = repK k o' := by simp [repK, hkey, ho]; omega
        rw [this]
        exact repAt_mono hr' (fun b hb hlt => dOld b hlt (by omega) (by omega)) (repK_ne k o')

theorem inv0 (w : World) : Inv w w.heap.size 0 ((w.alloc (.cells #[.string ⟨#[]⟩, .string ⟨#[]⟩, .string ⟨#[]⟩, .string ⟨#[]⟩, .string ⟨#[]⟩] 9)).alloc (.cells (Tryz.zeroCells95.toList.set 256 (.slice (some ⟨w.heap.size, 0, none⟩) 0 5)).toArray 95)) := by
  have hz : (Tryz.zeroCells95.toList.take 256).all (fun v => match v with | .slice none 0 0 => true | _ => false) = true := by kernel_rfl
  have hl : Tryz.zeroCells95.toList.length = 257 := by kernel_rfl
  rw [List.all_eq_true] at hz
  refine ⟨((RowKit.Below.refl _ _).alloc (Nat.le_refl _) _).alloc (by simp) _, by simp, heap_alloc2_old _ _ _, _, heap_alloc2_new _ _ _, by simp [hl], by simp [hl], fun o ho => ⟨.slice none 0 0, ?_, rfl⟩⟩
  rw [List.getElem?_toArray, List.getElem?_set, if_neg (by omega)]
  obtain ⟨v, hv⟩ : ∃ v, Tryz.zeroCells95.toList[o]? = some v := ⟨_, List.getElem?_eq_getElem (by omega)⟩
  have hm : v ∈ Tryz.zeroCells95.toList.take 256 := List.mem_of_getElem? (i := o) (by rw [List.getElem?_take, if_pos ho]; exact hv)
  have := hz v hm
  rw [hv]
  split at this
  · rfl
  · cases this

theorem build_walk (R O c : Nat) (w : World) (hR : w.cell? ⟨R, 4, none⟩ = some (.slice (some ⟨O, 0, none⟩) 10 c))
    (o0 : w.cell? ⟨O, 0, none⟩ = some (.string ⟨#[34]⟩)) (o1 : w.cell? ⟨O, 1, none⟩ = some (.string ⟨#[92, 34]⟩)) (o2 : w.cell? ⟨O, 2, none⟩ = some (.string ⟨#[92]⟩)) (o3 : w.cell? ⟨O, 3, none⟩ = some (.string ⟨#[92, 92]⟩))
    (o4 : w.cell? ⟨O, 4, none⟩ = some (.string ⟨#[10]⟩)) (o5 : w.cell? ⟨O, 5, none⟩ = some (.string ⟨#[92, 110]⟩)) (o6 : w.cell? ⟨O, 6, none⟩ = some (.string ⟨#[9]⟩)) (o7 : w.cell? ⟨O, 7, none⟩ = some (.string ⟨#[92, 116]⟩))
    (o8 : w.cell? ⟨O, 8, none⟩ = some (.string ⟨#[36]⟩)) (o9 : w.cell? ⟨O, 9, none⟩ = some (.string ⟨#[92, 36]⟩)) (hO : O < w.heap.size) :
    Calls Tryz.prog 25 #[.pointer (some ⟨R, 0, none⟩)] w fun e w' => e = .returned (.iface 96 (.pointer (some ⟨w.heap.size + 1, 0, none⟩))) ∧ Inv w w.heap.size 5 w' := by
  have hb := build_bsr
  have hm := make_five w
  have hst := run_storeCells_new (P := Tryz.prog) (w.alloc (.cells #[.string ⟨#[]⟩, .string ⟨#[]⟩, .string ⟨#[]⟩, .string ⟨#[]⟩, .string ⟨#[]⟩] 9)) 95 Tryz.zeroCells95 (Tryz.zeroCells95.toList.set 256 (.slice (some ⟨w.heap.size, 0, none⟩) 0 5)).toArray (by kernel_rfl) (by kernel_rfl) (by kernel_rfl)
  simp only [World.size_alloc] at hst
  go_enter Tryz.func25, Tryz.ntmps25
  go_wp2
  refine wp_loop_rounds 6 ?_
  rw [rounds_succ]
  go_wp2
  show Code.rounds _ _ _ 5 _ _
  rw [rounds_succ]
  go_wp2
  show Code.rounds _ _ _ 4 _ _
  rw [rounds_succ]
  go_wp2
  show Code.rounds _ _ _ 3 _ _
  rw [rounds_succ]
  go_wp2
  show Code.rounds _ _ _ 2 _ _
  rw [rounds_succ]
  go_wp2
  show Code.rounds _ _ _ 1 _ _
  rw [rounds_succ]
  go_wp2
  go_wp2
  generalize hz : (w.alloc (.cells #[.string ⟨#[]⟩, .string ⟨#[]⟩, .string ⟨#[]⟩, .string ⟨#[]⟩, .string ⟨#[]⟩] 9)).alloc _ = w1
  go_loopw [12] (fun iv wr => ∃ k : Nat, k ≤ 5 ∧ iv = .int .i64 (8 - 2 * (k : Int)) ∧ Inv w w.heap.size k wr) (fun iv _ => (RowKit.intOf iv + 2).toNat)
  case atStart => exact ⟨0, by omega, rfl, hz ▸ inv0 w⟩
  case round =>
    obtain ⟨k, hk, rfl, hI⟩ := hrel
    obtain rfl | rfl | rfl | rfl | rfl | rfl : k = 0 ∨ k = 1 ∨ k = 2 ∨ k = 3 ∨ k = 4 ∨ k = 5 := by omega
    · obtain ⟨hB, hsz, hS, C, hC, hCs, hCl, hCo⟩ := id hI
      have cO : wr.cell? ⟨O, 8, none⟩ = some (.string ⟨#[36]⟩) := by rw [hB.cell hO]; exact o8
      have cV : wr.cell? ⟨O, 9, none⟩ = some (.string ⟨#[92, 36]⟩) := by rw [hB.cell hO]; exact o9
      obtain ⟨v, hv, hr⟩ := hCo 36 (by omega)
      obtain rfl : v = .slice none 0 0 := hr
      have cT : wr.cell? ⟨w.heap.size + 1, 36, none⟩ = some (.slice none 0 0) := by rw [cell_of_row _ _ _ _ _ _ hC]; exact hv
      have cL : wr.cell? ⟨w.heap.size + 1, 256, none⟩ = some (.slice (some ⟨w.heap.size, 0, none⟩) 0 5) := by rw [cell_of_row _ _ _ _ _ _ hC]; exact hCl
      have hix : ∀ h : 0 < (⟨#[36]⟩ : ByteArray).size, (((⟨#[36]⟩ : ByteArray)[0]'h).toNat : Int) = 36 := fun _ => rfl
      have heq := run_eql_slice_nil (P := Tryz.prog) wr 92 5 none 0 0 Tryz.underlying92
      have hcs := fun w => Lib.run_convert_string_bytes (P := Tryz.prog) w 9 92 5 ⟨#[92, 36]⟩ (u := .string) Tryz.underlying9 Tryz.underlying92 Tryz.underlying5
      obtain ⟨fB1, fB2, fC1, fC2, fE1, fE2, hNext⟩ := step_inv w wr _ _ _ _ w.heap.size 0 36 36 36 36 (by omega) rfl rfl rfl hI rfl rfl rfl rfl rfl
      simp only [wB] at fB1 fB2 fC1 fC2 fE1 fE2
      have hcb : (convert 92 9 (.slice (some ⟨wr.heap.size, 0, none⟩) 1 1)).run Tryz.prog (wr.alloc (.cells #[.int .u8 36] 5)) = .ok (.string ⟨#[36]⟩) (wr.alloc (.cells #[.int .u8 36] 5)) := run_convert_bytes_back (P := Tryz.prog) (wr.alloc (.cells #[.int .u8 36] 5)) 92 9 5 ⟨wr.heap.size, 0, none⟩ 1 [36] Tryz.underlying92 Tryz.underlying5 Tryz.underlying9 (fun j hj => by
        match j, hj with
        | 0, _ => rw [add_zero']; simp)
      have HD : Hid _ := hNext
      clear hst hb hm o0 o1 o2 o3 o4 o5 o6 o7 o8 o9 hNext hI hCo hC hCl hCs hS hv
      go_wp2
      exact ⟨⟨1, by omega, rfl, HD.out⟩, by decide⟩
    · obtain ⟨hB, hsz, hS, C, hC, hCs, hCl, hCo⟩ := id hI
      have cO : wr.cell? ⟨O, 6, none⟩ = some (.string ⟨#[9]⟩) := by rw [hB.cell hO]; exact o6
      have cV : wr.cell? ⟨O, 7, none⟩ = some (.string ⟨#[92, 116]⟩) := by rw [hB.cell hO]; exact o7
      obtain ⟨v, hv, hr⟩ := hCo 9 (by omega)
      obtain rfl : v = .slice none 0 0 := hr
      have cT : wr.cell? ⟨w.heap.size + 1, 9, none⟩ = some (.slice none 0 0) := by rw [cell_of_row _ _ _ _ _ _ hC]; exact hv
      have cL : wr.cell? ⟨w.heap.size + 1, 256, none⟩ = some (.slice (some ⟨w.heap.size, 0, none⟩) 1 5) := by rw [cell_of_row _ _ _ _ _ _ hC]; exact hCl
      have hix : ∀ h : 0 < (⟨#[9]⟩ : ByteArray).size, (((⟨#[9]⟩ : ByteArray)[0]'h).toNat : Int) = 9 := fun _ => rfl
      have heq := run_eql_slice_nil (P := Tryz.prog) wr 92 5 none 0 0 Tryz.underlying92
      have hcs := fun w => Lib.run_convert_string_bytes (P := Tryz.prog) w 9 92 5 ⟨#[92, 116]⟩ (u := .string) Tryz.underlying9 Tryz.underlying92 Tryz.underlying5
      obtain ⟨fB1, fB2, fC1, fC2, fE1, fE2, hNext⟩ := step_inv w wr _ _ _ _ w.heap.size 1 9 9 9 116 (by omega) rfl rfl rfl hI rfl rfl rfl rfl rfl
      simp only [wB] at fB1 fB2 fC1 fC2 fE1 fE2
      have hcb : (convert 92 9 (.slice (some ⟨wr.heap.size, 0, none⟩) 1 1)).run Tryz.prog (wr.alloc (.cells #[.int .u8 9] 5)) = .ok (.string ⟨#[9]⟩) (wr.alloc (.cells #[.int .u8 9] 5)) := run_convert_bytes_back (P := Tryz.prog) (wr.alloc (.cells #[.int .u8 9] 5)) 92 9 5 ⟨wr.heap.size, 0, none⟩ 1 [9] Tryz.underlying92 Tryz.underlying5 Tryz.underlying9 (fun j hj => by
        match j, hj with
        | 0, _ => rw [add_zero']; simp)
      have HD : Hid _ := hNext
      clear hst hb hm o0 o1 o2 o3 o4 o5 o6 o7 o8 o9 hNext hI hCo hC hCl hCs hS hv
      go_wp2
      exact ⟨⟨2, by omega, rfl, HD.out⟩, by decide⟩
    · obtain ⟨hB, hsz, hS, C, hC, hCs, hCl, hCo⟩ := id hI
      have cO : wr.cell? ⟨O, 4, none⟩ = some (.string ⟨#[10]⟩) := by rw [hB.cell hO]; exact o4
      have cV : wr.cell? ⟨O, 5, none⟩ = some (.string ⟨#[92, 110]⟩) := by rw [hB.cell hO]; exact o5
      obtain ⟨v, hv, hr⟩ := hCo 10 (by omega)
      obtain rfl : v = .slice none 0 0 := hr
      have cT : wr.cell? ⟨w.heap.size + 1, 10, none⟩ = some (.slice none 0 0) := by rw [cell_of_row _ _ _ _ _ _ hC]; exact hv
      have cL : wr.cell? ⟨w.heap.size + 1, 256, none⟩ = some (.slice (some ⟨w.heap.size, 0, none⟩) 2 5) := by rw [cell_of_row _ _ _ _ _ _ hC]; exact hCl
      have hix : ∀ h : 0 < (⟨#[10]⟩ : ByteArray).size, (((⟨#[10]⟩ : ByteArray)[0]'h).toNat : Int) = 10 := fun _ => rfl
      have heq := run_eql_slice_nil (P := Tryz.prog) wr 92 5 none 0 0 Tryz.underlying92
      have hcs := fun w => Lib.run_convert_string_bytes (P := Tryz.prog) w 9 92 5 ⟨#[92, 110]⟩ (u := .string) Tryz.underlying9 Tryz.underlying92 Tryz.underlying5
      obtain ⟨fB1, fB2, fC1, fC2, fE1, fE2, hNext⟩ := step_inv w wr _ _ _ _ w.heap.size 2 10 10 10 110 (by omega) rfl rfl rfl hI rfl rfl rfl rfl rfl
      simp only [wB] at fB1 fB2 fC1 fC2 fE1 fE2
      have hcb : (convert 92 9 (.slice (some ⟨wr.heap.size, 0, none⟩) 1 1)).run Tryz.prog (wr.alloc (.cells #[.int .u8 10] 5)) = .ok (.string ⟨#[10]⟩) (wr.alloc (.cells #[.int .u8 10] 5)) := run_convert_bytes_back (P := Tryz.prog) (wr.alloc (.cells #[.int .u8 10] 5)) 92 9 5 ⟨wr.heap.size, 0, none⟩ 1 [10] Tryz.underlying92 Tryz.underlying5 Tryz.underlying9 (fun j hj => by
        match j, hj with
        | 0, _ => rw [add_zero']; simp)
      have HD : Hid _ := hNext
      clear hst hb hm o0 o1 o2 o3 o4 o5 o6 o7 o8 o9 hNext hI hCo hC hCl hCs hS hv
      go_wp2
      exact ⟨⟨3, by omega, rfl, HD.out⟩, by decide⟩
    · obtain ⟨hB, hsz, hS, C, hC, hCs, hCl, hCo⟩ := id hI
      have cO : wr.cell? ⟨O, 2, none⟩ = some (.string ⟨#[92]⟩) := by rw [hB.cell hO]; exact o2
      have cV : wr.cell? ⟨O, 3, none⟩ = some (.string ⟨#[92, 92]⟩) := by rw [hB.cell hO]; exact o3
      obtain ⟨v, hv, hr⟩ := hCo 92 (by omega)
      obtain rfl : v = .slice none 0 0 := hr
      have cT : wr.cell? ⟨w.heap.size + 1, 92, none⟩ = some (.slice none 0 0) := by rw [cell_of_row _ _ _ _ _ _ hC]; exact hv
      have cL : wr.cell? ⟨w.heap.size + 1, 256, none⟩ = some (.slice (some ⟨w.heap.size, 0, none⟩) 3 5) := by rw [cell_of_row _ _ _ _ _ _ hC]; exact hCl
      have hix : ∀ h : 0 < (⟨#[92]⟩ : ByteArray).size, (((⟨#[92]⟩ : ByteArray)[0]'h).toNat : Int) = 92 := fun _ => rfl
      have heq := run_eql_slice_nil (P := Tryz.prog) wr 92 5 none 0 0 Tryz.underlying92
      have hcs := fun w => Lib.run_convert_string_bytes (P := Tryz.prog) w 9 92 5 ⟨#[92, 92]⟩ (u := .string) Tryz.underlying9 Tryz.underlying92 Tryz.underlying5
      obtain ⟨fB1, fB2, fC1, fC2, fE1, fE2, hNext⟩ := step_inv w wr _ _ _ _ w.heap.size 3 92 92 92 92 (by omega) rfl rfl rfl hI rfl rfl rfl rfl rfl
      simp only [wB] at fB1 fB2 fC1 fC2 fE1 fE2
      have hcb : (convert 92 9 (.slice (some ⟨wr.heap.size, 0, none⟩) 1 1)).run Tryz.prog (wr.alloc (.cells #[.int .u8 92] 5)) = .ok (.string ⟨#[92]⟩) (wr.alloc (.cells #[.int .u8 92] 5)) := run_convert_bytes_back (P := Tryz.prog) (wr.alloc (.cells #[.int .u8 92] 5)) 92 9 5 ⟨wr.heap.size, 0, none⟩ 1 [92] Tryz.underlying92 Tryz.underlying5 Tryz.underlying9 (fun j hj => by
        match j, hj with
        | 0, _ => rw [add_zero']; simp)
      have HD : Hid _ := hNext
      clear hst hb hm o0 o1 o2 o3 o4 o5 o6 o7 o8 o9 hNext hI hCo hC hCl hCs hS hv
      go_wp2
      exact ⟨⟨4, by omega, rfl, HD.out⟩, by decide⟩
    · obtain ⟨hB, hsz, hS, C, hC, hCs, hCl, hCo⟩ := id hI
      have cO : wr.cell? ⟨O, 0, none⟩ = some (.string ⟨#[34]⟩) := by rw [hB.cell hO]; exact o0
      have cV : wr.cell? ⟨O, 1, none⟩ = some (.string ⟨#[92, 34]⟩) := by rw [hB.cell hO]; exact o1
      obtain ⟨v, hv, hr⟩ := hCo 34 (by omega)
      obtain rfl : v = .slice none 0 0 := hr
      have cT : wr.cell? ⟨w.heap.size + 1, 34, none⟩ = some (.slice none 0 0) := by rw [cell_of_row _ _ _ _ _ _ hC]; exact hv
      have cL : wr.cell? ⟨w.heap.size + 1, 256, none⟩ = some (.slice (some ⟨w.heap.size, 0, none⟩) 4 5) := by rw [cell_of_row _ _ _ _ _ _ hC]; exact hCl
      have hix : ∀ h : 0 < (⟨#[34]⟩ : ByteArray).size, (((⟨#[34]⟩ : ByteArray)[0]'h).toNat : Int) = 34 := fun _ => rfl
      have heq := run_eql_slice_nil (P := Tryz.prog) wr 92 5 none 0 0 Tryz.underlying92
      have hcs := fun w => Lib.run_convert_string_bytes (P := Tryz.prog) w 9 92 5 ⟨#[92, 34]⟩ (u := .string) Tryz.underlying9 Tryz.underlying92 Tryz.underlying5
      obtain ⟨fB1, fB2, fC1, fC2, fE1, fE2, hNext⟩ := step_inv w wr _ _ _ _ w.heap.size 4 34 34 34 34 (by omega) rfl rfl rfl hI rfl rfl rfl rfl rfl
      simp only [wB] at fB1 fB2 fC1 fC2 fE1 fE2
      have hcb : (convert 92 9 (.slice (some ⟨wr.heap.size, 0, none⟩) 1 1)).run Tryz.prog (wr.alloc (.cells #[.int .u8 34] 5)) = .ok (.string ⟨#[34]⟩) (wr.alloc (.cells #[.int .u8 34] 5)) := run_convert_bytes_back (P := Tryz.prog) (wr.alloc (.cells #[.int .u8 34] 5)) 92 9 5 ⟨wr.heap.size, 0, none⟩ 1 [34] Tryz.underlying92 Tryz.underlying5 Tryz.underlying9 (fun j hj => by
        match j, hj with
        | 0, _ => rw [add_zero']; simp)
      have HD : Hid _ := hNext
      clear hst hb hm o0 o1 o2 o3 o4 o5 o6 o7 o8 o9 hNext hI hCo hC hCl hCs hS hv
      go_wp2
      exact ⟨⟨5, by omega, rfl, HD.out⟩, by decide⟩
    · clear hst hb hm o0 o1 o2 o3 o4 o5 o6 o7 o8 o9
      go_wp2
      go_ret
      exact ⟨rfl, hI⟩
end Go.Proofs.YtmhmelmoionoiaaGreatDoor.On

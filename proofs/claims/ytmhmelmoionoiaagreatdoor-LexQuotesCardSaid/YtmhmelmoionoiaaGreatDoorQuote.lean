/-
  lex.Quote: walked; its contract.
-/
import Derived.Test.YtmhmelmoionoiaaGreatDoorRep
namespace Go.Proofs.YtmhmelmoionoiaaGreatDoor.On
open Go.RowKit Go.Lib Go.Eng Go.Proofs

set_option maxHeartbeats 16000000
set_option maxRecDepth 100000

theorem hid {p : Prop} (h : p) : Hid p := h

theorem quote_walk (s : ByteArray) (hs : s.size ≤ 1000) (w : World) :
    Calls Tryz.prog 5 #[.string s] w fun e w' => e = .returned (.string ⟨(quoM s.data.toList).toArray⟩) ∧ Below w.heap.size w w' := by
  obtain ⟨wO, hwO⟩ : ∃ wO, wO = w.alloc (.cells onV.toArray 9) := ⟨_, rfl⟩
  have hcell : ∀ j v, onV[j]? = some v → wO.cell? ⟨w.heap.size, j, none⟩ = some v := fun j v hj => by
    rw [hwO, cell_of_row _ _ _ _ _ _ (heap_alloc_new w _)]; simpa using hj
  have hsz : wO.heap.size = w.heap.size + 1 := by rw [hwO]; simp
  have hnew := new_walk w.heap.size wO (hcell 0 _ rfl) (hcell 1 _ rfl) (hcell 2 _ rfl) (hcell 3 _ rfl) (hcell 4 _ rfl) (hcell 5 _ rfl) (hcell 6 _ rfl) (hcell 7 _ rfl) (hcell 8 _ rfl) (hcell 9 _ rfl)
  have hfirst : ∀ zs c w2, w2 = ((wO.alloc (.cells (onV.toArray ++ zs) 9)).alloc (.cells #[.int .u32 0, .int .i32 0, .int .u32 0, .nilIface, .slice (some ⟨wO.heap.size, 0, none⟩) 10 c] 64)).drew →
      Calls Tryz.prog 9 #[.pointer (some ⟨w.heap.size + 1 + 1, 0, none⟩), .string s] w2 fun e w' => e = .returned (.string ⟨(quB s.data.toList).toArray⟩) ∧ Below w.heap.size w w' := by
    intro zs c w2 h2
    rw [← hsz]
    have hrow : RowR w2 (wO.heap.size + 1) 0 0 .nilIface (.slice (some ⟨wO.heap.size, 0, none⟩) 10 c) := by rw [h2]; exact heap_alloc2_new _ _ _
    have hold : w2.heap[wO.heap.size]? = some (.cells (onV.toArray ++ zs) 9 (0, 0)) := by rw [h2]; exact heap_alloc2_old _ _ _
    refine (first_replace (wO.heap.size + 1) wO.heap.size c s w2 hrow (fun j v hj => ?_) (by omega) _ (fun w lo B ht => replace_walk s hs w lo B ht)).mono ?_
    · rw [cell_of_row _ _ _ _ _ _ hold, Array.getElem?_append_left (by
        have := (List.getElem?_eq_some_iff.1 hj).1
        simpa using this)]
      simpa using hj
    · rintro e w' ⟨rfl, hb⟩
      refine ⟨rfl, RowKit.Below.trans ?_ (hb.mono (by omega))⟩
      rw [h2]
      refine (((?_ : Below w.heap.size w wO).alloc (by omega) _).alloc (by simp; omega) _).drew
      rw [hwO]
      exact (RowKit.Below.refl _ _).alloc (Nat.le_refl _) _
  have hql : (quB s.data.toList).length ≤ 2000 := by
    have h1 := (quB_len s.data.toList).2
    have h2 : s.data.toList.length = s.size := by simp
    omega
  have hsz' : wO.heap.size = w.heap.size + 1 := hsz
  subst hwO
  have HF : Hid _ := hfirst
  clear hcell hsz hsz' hfirst
  go_enter Tryz.func5, Tryz.ntmps5
  go_wp2_with (go_at_call 8; refine hnew.mono ?_; rintro e w2 ⟨rfl, zs, c, h2⟩; have HQ := hid (HF.out zs c w2 h2); clear h2)
  refine HQ.out.mono ?_
  rintro e w3 ⟨rfl, hb3⟩
  go_wp2
  go_ret
  refine ⟨?_, hb3⟩
  show Ending.returned (.string ((⟨#[34]⟩ : ByteArray) ++ ⟨(quB s.data.toList).toArray⟩ ++ ⟨#[34]⟩)) = Ending.returned (.string ⟨(quoM s.data.toList).toArray⟩)
  congr 2
end Go.Proofs.YtmhmelmoionoiaaGreatDoor.On
namespace Go.Proofs.YtmhmelmoionoiaaGreatDoor
open Go.Eng

theorem args1 {vs : Array Value} (h : vs.size = 1) : ∃ a, vs = #[a] := by
  obtain ⟨l⟩ := vs
  match l, h with
  | [a], _ => exact ⟨a, rfl⟩

/-- lex.Quote's contract. -/
theorem quote_sound (s : Str) (hs : s.length ≤ 1000) : Snd 5 [.str s] (.str (quoM s)) := by
  refine snd_calls Tryz.func5 (by kernel_rfl) (by kernel_rfl) rfl fun w av vs hg hsz hr => ?_
  obtain ⟨v0, rfl⟩ := args1 hsz
  have hr0 := hr 0 _ _ rfl rfl
  have hbig : big = 140737488355328 := rfl
  cases hr0 with
  | str b _ hb hlb =>
    subst hb
    refine (On.quote_walk b (by have : b.data.toList.length = b.size := by simp
                                omega) w).mono ?_
    rintro e w' ⟨rfl, hb⟩
    have h2 := (quB_len b.data.toList).2
    exact ⟨_, rfl, .str _ _ (by simp) (by rw [quoM_len]; omega), hb⟩
end Go.Proofs.YtmhmelmoionoiaaGreatDoor

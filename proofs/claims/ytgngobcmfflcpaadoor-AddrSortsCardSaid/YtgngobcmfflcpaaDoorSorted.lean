/-
  slices.SortedFunc(maps.Keys(m), compareKeys): the keys of the map, sorted, in a row of the call's own.
-/
import Derived.Test.YtgngobcmfflcpaaDoorSortK
import Derived.Test.YtgngobcmfflcpaaDoorShelf
namespace Go.Proofs.YtgngobcmfflcpaaDoor
open Go.Eng Go.RowKit Go.Sort Go.Shelf Go.Maps Go.Proofs
open Go.WideElems (Fit rd rg rd_key rd_val rg_of rd_mk)

set_option maxRecDepth 100000

theorem K6_vK {x : K6} {k : KA} (h : x.v = vK k) : x.cs = encK k := by
  simp only [K6.v, vK, Value.agg.injEq, Array.mk.injEq, List.cons.injEq, and_true] at h
  obtain ⟨h0, h1, h2, h3, h4, h5⟩ := h
  simp [K6.cs, encK, h0, h1, h2, h3, h4, h5]

/-- the key that a value reads as -/
def gK : Value → KeyR
  | .agg l => match l.toList with
    | [.string a, .string b, .int _ k, .int _ i, .string c, .int _ n] => ⟨a.data.toList, b.data.toList, k, i, c.data.toList, n⟩
    | _ => default
  | _ => default
theorem gK_vK (k : KA) : gK (vK k) = k.1 := rfl

theorem keys_back : ∀ {ss : List K6} {l : List KA}, (∀ x ∈ ss, ∃ k : KA, x.v = vK k) → ∃ ks : List KA, ss.map K6.v = ks.map vK ∧ rowOf ss = ks.flatMap encK ∧ ss.length = ks.length
  | [], _, _ => ⟨[], rfl, rfl, rfl⟩
  | x :: r, l, h => by
    obtain ⟨k, hk⟩ := h x List.mem_cons_self
    obtain ⟨ks, h1, h2, h3⟩ := keys_back (l := l) (ss := r) fun y hy => h y (List.mem_cons_of_mem _ hy)
    refine ⟨k :: ks, by simp [hk, h1], ?_, by simp [h3]⟩
    simp only [rowOf, List.flatMap_cons] at h2 ⊢
    rw [h2, K6_vK hk]

theorem flat_get (ks : List KA) (j : Nat) (h : j < ks.length * 6) : (ks.flatMap encK)[j]? = some ((flatK encK 6 ks.toArray)[j]!) := by
  rw [get_flatK _ _ _ _ (by simpa using h)]
  induction ks generalizing j with
  | nil => simp at h
  | cons k r ih =>
    rw [List.flatMap_cons]
    by_cases hj : j < 6
    · rw [List.getElem?_append_left (by simpa [encK] using hj), show j / 6 = 0 by omega, show j % 6 = j by omega]
      simp only [List.getElem!_toArray, List.getElem!_cons_zero]
      rw [List.getElem?_eq_getElem (by simpa [encK] using hj), getElem!_pos _ _ (by simpa [encK] using hj)]
    · have hl : (encK k).length = 6 := rfl
      rw [List.getElem?_append_right (by omega), hl, ih (j - 6) (by simp at h; omega)]
      obtain ⟨q, hq⟩ : ∃ q, j / 6 = q + 1 := ⟨j / 6 - 1, by omega⟩
      rw [show (j - 6) / 6 = q by omega, show (j - 6) % 6 = j % 6 by omega, hq]
      simp

theorem holds_of {w : World} {g : Nat} {cells : Array Value} {T : TypeId} (ks : List KA) (hh : w.heap[g]? = some (.cells cells T (0, 0))) (ht : cells.toList.take (ks.length * 6) = ks.flatMap encK) (hc : ks.length * 6 ≤ cells.size) :
    HoldsK encK 6 w g 0 ks.toArray := by
  intro j hj
  have hj' : j < ks.length * 6 := by simpa using hj
  refine ⟨?_, ?_⟩
  · have h1 := flat_get ks j hj'
    rw [← ht, List.getElem?_take_of_lt hj'] at h1
    simp only [World.cell?, hh, Nat.zero_add, id]
    simpa using h1
  · simp [World.frozen?, hh]

theorem heap_sortWorldK {w : World} {g n k : Nat} {d : Array KA} {os : Array Obj} (hk : k ≠ g) (hl : k < w.heap.size) : (sortWorldK encK 6 w g 0 n d os).heap[k]? = w.heap[k]? := by
  unfold sortWorldK grow putRowK putRow mapBlock Sort.ahead
  simp only
  rw [Array.getElem?_append_left (by simpa using hl), Array.getElem?_modify, if_neg (by omega)]

set_option maxHeartbeats 2000000 in
theorem sorted_calls (Bm Bo b : Nat) (w : World) (hBm : Bm < w.heap.size) (K : Keyed Tryd.prog kT) (hm : w.cell? ⟨Bm, Bo, none⟩ = some (.map (some b))) {es : Array MapEntry} {clock : Nat} (hb : w.heap[b]? = some (.map es clock))
    {R : Value → Option (DataW Unit × List MemPlace)} (Ft : Fit Tryd.prog kT R es clock) (hN : es.size * 72 ≤ 140737488355328) (kl : List KA) (hkl : es.toList.map (·.key) = kl.map vK) :
    Calls Tryd.prog 33 #[.func (.func 50) #[] #[.pointer (some ⟨Bm, Bo, none⟩)], .func (.func 35) #[] #[]] w fun e w' =>
      ∃ (v : Value) (ks : List KA), e = .returned v ∧ ks.map (·.1) = sortK (kl.map (·.1)) ∧ RowKit.Below w.heap.size w w' ∧
        ((ks = [] ∧ v = .slice none 0 0) ∨ ∃ g cap, v = .slice (some ⟨g, 0, none⟩) ks.length cap ∧ ks.length ≤ cap ∧ w.heap.size ≤ g ∧ HoldsK encK 6 w' g 0 ks.toArray) := by
  have mixed : Tryd.prog.follows .mixedOrders = true := by kernel_rfl
  have hgot := callsIn_wide.1 (got Fence.wide 3 trivial trivial trivial rfl (by omega) Bm Bo b w hBm K hm hb Ft hN)
  have hlen : es.size = kl.length := by
    have := congrArg List.length hkl
    simpa using this
  have e48 : ∀ args w, (callFunc 48 args).run Tryd.prog w = .ok (.enter 48 args) w := enters_of Tryd.func48 (by kernel_rfl) rfl
  have e49 : ∀ args w, (callFunc 49 args).run Tryd.prog w = .ok (.enter 49 args) w := enters_of Tryd.func49 (by kernel_rfl) rfl
  -- what the sort does with the row that Collect made
  have hsort : ∀ (v : Value) (ss : List K6) (w2 : World), (ss.map K6.v).Perm (es.toList.map (·.key)) → w2.ownsRow w.heap.size kT 6 v ss.length (rowOf ss) → (v = .slice none 0 0 ↔ ss = []) → RowKit.Below w.heap.size w w2 →
      Calls Tryd.prog 49 #[v, .func (.func 35) #[] #[]] w2 fun e w' => e = .returned (.tuple #[]) ∧ ∃ ks : List KA, ks.map (·.1) = sortK (kl.map (·.1)) ∧ RowKit.Below w.heap.size w w' ∧
        ((ks = [] ∧ v = .slice none 0 0) ∨ ∃ g cap, v = .slice (some ⟨g, 0, none⟩) ks.length cap ∧ ks.length ≤ cap ∧ w.heap.size ≤ g ∧ HoldsK encK 6 w' g 0 ks.toArray) := by
    intro v ss w2 hp hown hnil hbel
    obtain ⟨ks, k1, k2, k3⟩ := keys_back (l := kl) (ss := ss) fun x hx => by
      have : x.v ∈ es.toList.map (·.key) := hp.mem_iff.1 (List.mem_map_of_mem hx)
      rw [hkl, List.mem_map] at this
      obtain ⟨k, _, hk⟩ := this
      exact ⟨k, hk.symm⟩
    have hpk : (ks.map (·.1)).Perm (kl.map (·.1)) := by
      have h1 := hp.map gK
      rw [k1, hkl, List.map_map, List.map_map] at h1
      rwa [show (gK ∘ vK) = (fun k : KA => k.1) from funext gK_vK] at h1
    obtain ⟨_, ⟨rfl, hz⟩ | ⟨g, cap, cur, rfl, hg, hh, hc, hcm, hcs, ht⟩⟩ := hown
    · obtain rfl := hnil.1 rfl
      obtain rfl : ks = [] := List.length_eq_zero_iff.1 (by rw [← k3]; rfl)
      refine (AnyF.slices_SortFunc_none (P := Tryd.prog) (ρ := Tryd.sortL_ren) { Tryd.sortL with } none 0 _ w2).mono ?_
      rintro e w' ⟨rfl, rfl⟩
      refine ⟨rfl, [], ?_, hbel, .inl ⟨rfl, rfl⟩⟩
      rw [← sortK_perm hpk]; simp [sortK]
    · have hne : ss ≠ [] := fun e => by have := hnil.2 e; simp at this
      have hH : HoldsK encK 6 w2 g 0 ks.toArray := holds_of ks hh (by rw [← k3, ht, k2]) (by rw [← k3, hcs]; exact Nat.mul_le_mul_right _ hc)
      have hgl : g < w2.heap.size := by
        rcases Nat.lt_or_ge g w2.heap.size with h | h
        · exact h
        · rw [Array.getElem?_eq_none h] at hh; simp at hh
      have hks : ks.length = kl.length := by simpa using hpk.length_eq
      have := AnyQ.slices_SortFunc_total Tryd.sortL 6 Tryd.isAgg27 Tryd.sizeOf27 encK (fun _ => rfl) (fun x v hv => by simp [encK, bS] at hv; rcases hv with rfl | rfl | rfl | rfl | rfl | rfl <;> rfl) cfK swoK 35 #[] g 0 cap ks.toArray w2 eg35 (cmp_lays g 0 _ w2) hH hgl (by simp; omega) totK
      rw [show ks.toArray.size = ss.length by simp [k3]] at this
      refine this.mono ?_
      rintro e w' ⟨rfl, n, os, rfl⟩
      have hsz : (ks.mergeSort fun x y => !(ltOf cfK) y x).length = ks.length := (List.mergeSort_perm _ _).length_eq
      refine ⟨rfl, ks.mergeSort fun x y => !(ltOf cfK) y x, (sortA ks).trans (sortK_perm hpk), ?_, .inr ⟨g, cap, by rw [hsz, k3], by rw [hsz, ← k3]; exact hc, hg, ?_⟩⟩
      · refine hbel.trans ⟨rfl, rfl, rfl, ?_, fun k hk => ?_⟩
        · exact size_sortWorldK_c encK 6 w2 g 0 n _ os
        · exact heap_sortWorldK (by omega) (by have := hbel.size; omega)
      · exact holdsK_sortWorldK_c encK 6 w2 g 0 ks.toArray _ n os hH hgl (by simp [hsz])
  go_enter Tryd.func33, Tryd.ntmps33
  go_wp2_with (first | (go_at_call 48; refine hgot.mono ?_; rintro e w2 ⟨v, ss, rfl, h1, h2, h3, h4⟩) | (go_at_call 49; refine (hsort _ ss _ h1 h2 h3 h4).mono ?_; rintro e w3 ⟨rfl, ks, q1, q2, q3⟩))
  go_ret
  exact ⟨_, ks, rfl, q1, q2, q3⟩
end Go.Proofs.YtgngobcmfflcpaaDoor

/-
  refs.compare IS WHAT THE LIBRARY MAY SORT BY: in whatever world it hands back the order's number, and all that it leaves are new blocks and draws; the order is total.
-/
import Derived.Test.YtcfdmfijlaafkaaGot
import Derived.Test.YtcfdmfijlaafkaaRLaw
import Derived.Shelf.SlSortCmp.NoneTotal
import Derived.Test.YtcfdmfijlaafkaaProg
namespace Go.Proofs.Ytcfdmfijlaafkaa
open Go.Eng Go.RowKit Go.Sort Go.Shelf Go.Proofs

set_option maxRecDepth 100000

def KOk (k : Tw) : Prop := k.1.length ≤ big ∧ k.2.length ≤ big
abbrev KA := {k : Tw // KOk k}
instance : Inhabited KA := ⟨⟨([], []), by decide, by decide⟩⟩
def bS (s : Str) : Value := .string ⟨s.toArray⟩
def encK (x : KA) : List Value := [bS x.1.1, bS x.1.2]
def vK (x : KA) : Value := .agg #[bS x.1.1, bS x.1.2]

theorem rd_bS {C : Pay Pl} {cx : Cx Pl} {s : Str} (h : s.length ≤ big) : RD C cx (bS s) (.str s) := .str _ _ rfl h
theorem rd_vK (x : KA) {C : Pay Pl} {cx : Cx Pl} : RD C cx (vK x) (.agg (cT x.1)) := by
  obtain ⟨h1, h2⟩ := x.2
  refine .agg _ _ rfl (fun i v hv => ?_) (fun i v c hv hc => ?_)
  · match i, hv with
    | 0, hv => cases hv; rfl
    | 1, hv => cases hv; rfl
    | i + 2, hv => simp at hv
  · match i, hv, hc with
    | 0, hv, hc => cases hv; cases hc; exact rd_bS h1
    | 1, hv, hc => cases hv; cases hc; exact rd_bS h2
    | i + 2, hv, hc => simp at hv

theorem str_inv {C : Pay Pl} {cx : Cx Pl} {v : Value} {s : Str} (h : RD C cx v (.str s)) : v = bS s ∧ s.length ≤ big := by
  cases h with
  | str b _ h1 h2 =>
    subst h1
    exact ⟨by simp [bS], h2⟩
theorem int_inv {C : Pay Pl} {cx : Cx Pl} {v : Value} {k : IntKind} {n : Int} (h : RD C cx v (.int k n)) : v = .int k n ∧ inR k n = true := by
  cases h with
  | int _ _ h => exact ⟨rfl, h⟩
/-- What reads as a reference is that reference's value. -/
theorem vK_inv {C : Pay Pl} {cx : Cx Pl} {v : Value} {k : Tw} (h : RD C cx v (.agg (cT k))) : ∃ hk : KOk k, v = vK ⟨k, hk⟩ := by
  cases h with
  | agg vs _ hs _ h =>
    obtain ⟨l⟩ := vs
    match l, hs with
    | [a, b], _ =>
      obtain ⟨h0, k0⟩ := str_inv (h 0 a _ rfl rfl)
      obtain ⟨h1, k1⟩ := str_inv (h 1 b _ rfl rfl)
      exact ⟨⟨k0, k1⟩, by rw [h0, h1]; rfl⟩

/-- Below the heap's end all is as it was, and the tape was only drawn on: blocks and draws are all. -/
theorem grown_of {w w' : World} (h : BelowD true w.heap.size w w') : ∃ q os, w' = grow (w.drewN q) os := by
  refine ⟨w'.drawn - w.drawn, w'.heap.extract w.heap.size w'.heap.size, ?_⟩
  have hd := h.drawn rfl
  have hh : w'.heap = w.heap ++ w'.heap.extract w.heap.size w'.heap.size := by
    refine Array.ext_getElem? fun i => ?_
    rw [Array.getElem?_append]
    split
    · rename_i hi; exact h.block i hi
    · rename_i hi
      rw [Array.getElem?_extract]
      by_cases h2 : i < w'.heap.size
      · rw [if_pos (by omega), show w.heap.size + (i - w.heap.size) = i by omega]
      · rw [if_neg (by omega), Array.getElem?_eq_none (by omega)]
  have h1 := h.os
  have h2 := h.tape
  have h3 := h.output
  have hd' : w'.drawn = w.drawn + (w'.drawn - w.drawn) := by omega
  generalize w'.heap.extract w.heap.size w'.heap.size = os at hh
  generalize w'.drawn - w.drawn = q at hd'
  cases w; cases w'
  simp only [grow, World.drewN] at *
  subst h1 h2 h3 hh hd'
  rfl

theorem eg16 : ∀ args w, (callFunc 16 args).run Try.prog w = .ok (.enter 16 args) w := enters_of Try.func16 (by kernel_rfl) rfl

theorem cmp_calls (x y : KA) (w : World) : Calls Try.prog 16 #[vK x, vK y] w fun e w' => e = .returned (.int .i64 (cmpK x.1 y.1)) ∧ ∃ q os, w' = grow (w.drewN q) os := by
  have h := cmpK_sound x.1 y.1 w (fun _ => False) #[vK x, vK y] (fun i cs h => by simp [X1, glb] at h) (fun _ h => h.elim) rfl (fun i v c hv hc => by
    match i, hv, hc with
    | 0, hv, hc => cases hv; cases hc; exact rd_vK x
    | 1, hv, hc => cases hv; cases hc; exact rd_vK y
    | i + 2, hv, hc => simp at hv)
  rcases h with ⟨_, h⟩ | ⟨v, w', h, _⟩
  · refine h.mono ?_
    rintro e w' ⟨v, rfl, h1, h2, _⟩
    obtain ⟨rfl, _⟩ := int_inv (show RD _ _ v (.int .i64 _) from h1)
    exact ⟨rfl, grown_of h2⟩
  · have h' := (eg16 #[vK x, vK y] w).symm.trans h
    simp at h'

def cfK (x y : KA) : Int := cmpK x.1 y.1

theorem cmp_lays (blk off size : Nat) (w : World) : CmpLays Try.prog 16 #[] encK 2 cfK blk off size w := fun _ _ _ _ x y => cmp_calls x y _

theorem lt_iff (x y : KA) : ltOf cfK x y = true ↔ cmpK x.1 y.1 < 0 := decide_eq_true_iff
theorem lt_not (x y : KA) : ltOf cfK x y = false ↔ cmpK y.1 x.1 ≤ 0 := by
  have h := pre_K.anti x.1 y.1
  have h2 : ltOf cfK x y = false ↔ ¬ cmpK x.1 y.1 < 0 := decide_eq_false_iff_not
  rw [h2, h]; omega

theorem swoK : SWO (ltOf cfK) where
  irrefl x := by
    rw [lt_not]
    have := pre_K.anti x.1 x.1
    omega
  trans x y z h1 h2 := by
    rw [lt_iff] at *
    have a1 := pre_K.anti x.1 y.1
    have a2 := pre_K.anti y.1 z.1
    have a3 := pre_K.anti x.1 z.1
    have h3 := pre_K.le x.1 y.1 z.1 (by omega) (by omega)
    by_cases h0 : cmpK x.1 z.1 = 0
    · have := pre_K.le z.1 x.1 y.1 (by omega) (by omega)
      omega
    · omega
  ntrans x y z h1 h2 := by
    rw [lt_not] at *
    exact pre_K.le _ _ _ h2 h1

theorem totK (x y : KA) (h1 : ltOf cfK x y = false) (h2 : ltOf cfK y x = false) : x = y := by
  rw [lt_not] at *
  have := pre_K.anti x.1 y.1
  exact Subtype.ext (cmpK_0 (by omega))

theorem sortA (l : List KA) : (l.mergeSort fun x y => !(ltOf cfK) y x).map (·.1) = sortK (l.map (·.1)) := by
  refine List.Perm.eq_of_pairwise (le := fun x y => leK x y = true) (fun a b _ _ h1 h2 => leK_anti a b h1 h2) ?_ (List.pairwise_mergeSort leK_trans leK_total _) (((List.mergeSort_perm _ _).map _).trans (List.mergeSort_perm _ _).symm)
  refine List.pairwise_map.2 ?_
  exact List.pairwise_mergeSort (le := fun x y : KA => !(ltOf cfK) y x) (fun a b c h1 h2 => leK_trans a.1 b.1 c.1 h1 h2) (fun a b => leK_total a.1 b.1) l
end Go.Proofs.Ytcfdmfijlaafkaa

/-
  THE KIT's CONTRACTS LAID AT THIS SEAT, in plain words (printed by the kit's own tools).
-/

namespace Go.Proofs
open Go.Shelf
def Try.sortLr_ren : Go.Shelf.Ren := ⟨fun | 6 => 31 | 15 => 43 | 14 => 42 | 28 => 54 | 29 => 55 | 20 => 46 | 21 => 47 | 22 => 48 | 23 => 49 | 24 => 50 | 25 => 51 | 26 => 52 | 27 => 53 | 46 => 63 | 47 => 64 | 48 => 65 | 49 => 66 | 50 => 67 | 57 => 71 | n => n, fun | 22 => 40 | 24 => 51 | 25 => 60 | 3 => 3 | 39 => 96 | 0 => 0 | 53 => 109 | 55 => 91 | 4 => 4 | 46 => 102 | 45 => 101 | 50 => 106 | 5 => 5 | 9 => 9 | 66 => 117 | 70 => 121 | 76 => 126 | 77 => 127 | n => n, fun | n => n⟩
theorem Try.sortLr : Go.Proofs.SlLaysF0.n6 Try.prog Try.sortLr_ren := {
  mixed := by kernel_rfl
  f6 := ⟨Try.f31.name, by decide, Try.func31.trans (congrArg some (by kernel_rfl))⟩
  f14 := ⟨Try.f42.name, by decide, Try.func42.trans (congrArg some (by kernel_rfl))⟩
  f15 := Try.func43.trans (congrArg some (by kernel_rfl))
  f20 := ⟨Try.f46.name, by decide, Try.func46.trans (congrArg some (by kernel_rfl))⟩
  f21 := ⟨Try.f47.name, by decide, Try.func47.trans (congrArg some (by kernel_rfl))⟩
  f22 := ⟨Try.f48.name, by decide, Try.func48.trans (congrArg some (by kernel_rfl))⟩
  f23 := ⟨Try.f49.name, by decide, Try.func49.trans (congrArg some (by kernel_rfl))⟩
  f24 := ⟨Try.f50.name, by decide, Try.func50.trans (congrArg some (by kernel_rfl))⟩
  f25 := ⟨Try.f51.name, by decide, Try.func51.trans (congrArg some (by kernel_rfl))⟩
  f26 := ⟨Try.f52.name, by decide, Try.func52.trans (congrArg some (by kernel_rfl))⟩
  f27 := ⟨Try.f53.name, by decide, Try.func53.trans (congrArg some (by kernel_rfl))⟩
  f28 := Try.func54.trans (congrArg some (by kernel_rfl))
  f29 := Try.func55.trans (congrArg some (by kernel_rfl))
  f46 := ⟨Try.f63.name, by decide, Try.func63.trans (congrArg some (by kernel_rfl))⟩
  f47 := Try.func64.trans (congrArg some (by kernel_rfl))
  f48 := Try.func65.trans (congrArg some (by kernel_rfl))
  f49 := ⟨Try.f66.name, by decide, Try.func66.trans (congrArg some (by kernel_rfl))⟩
  f50 := ⟨Try.f67.name, by decide, Try.func67.trans (congrArg some (by kernel_rfl))⟩
  f57 := ⟨Try.f71.name, by decide, Try.func71.trans (congrArg some (by kernel_rfl))⟩
  t0 := Try.underlying0
  a0 := Try.isAgg0
  z0 := Try.sizeOf0
  v0 := Try.zeroValue0
  t3 := Try.underlying3
  a3 := Try.isAgg3
  z3 := Try.sizeOf3
  v3 := Try.zeroValue3
  t4 := Try.underlying4
  a4 := Try.isAgg4
  z4 := Try.sizeOf4
  v4 := Try.zeroValue4
  t5 := Try.underlying5
  a5 := Try.isAgg5
  z5 := Try.sizeOf5
  v5 := Try.zeroValue5
  t9 := Try.underlying9
  a9 := Try.isAgg9
  z9 := Try.sizeOf9
  v9 := Try.zeroValue9
  t22 := Try.underlying40
  a22 := Try.isAgg40
  z22 := Try.sizeOf40
  v22 := Try.zeroValue40
  t25 := Try.underlying60
  a25 := Try.isAgg60
  z25 := Try.sizeOf60
  v25 := Try.zeroValue60
  t39 := Try.underlying96
  a39 := Try.isAgg96
  z39 := Try.sizeOf96
  v39 := Try.zeroValue96
  t45 := Try.underlying101
  a45 := Try.isAgg101
  z45 := Try.sizeOf101
  v45 := Try.zeroValue101
  t46 := Try.underlying102
  a46 := Try.isAgg102
  z46 := Try.sizeOf102
  v46 := Try.zeroValue102
  t50 := Try.underlying106
  a50 := Try.isAgg106
  z50 := Try.sizeOf106
  v50 := Try.zeroValue106
  t53 := Try.underlying109
  a53 := Try.isAgg109
  z53 := Try.sizeOf109
  v53 := Try.zeroValue109
  t55 := Try.underlying91
  a55 := Try.isAgg91
  z55 := Try.sizeOf91
  v55 := Try.zeroValue91
  t66 := Try.underlying117
  a66 := Try.isAgg117
  z66 := Try.sizeOf117
  v66 := Try.zeroValue117
  t70 := Try.underlying121
  a70 := Try.isAgg121
  z70 := Try.sizeOf121
  v70 := Try.zeroValue121
  t76 := Try.underlying126
  a76 := Try.isAgg126
  z76 := Try.sizeOf126
  v76 := Try.zeroValue126
  t77 := Try.underlying127
  a77 := Try.isAgg127
  z77 := Try.sizeOf127
  v77 := Try.zeroValue127 }
end Go.Proofs

/-
  slices.SortedFunc(maps.Keys(m), refs.compare): the keys of the map, sorted, in a row of the call's own.
-/

namespace Go.Proofs.Ytcfdmfijlaafkaa
open Go.Eng Go.RowKit Go.Sort Go.Shelf Go.Maps Go.Proofs
open Go.WideElems (Fit rd rg rd_key rd_val rg_of rd_mk)

set_option maxRecDepth 100000

theorem K2_vK {x : K2} {k : KA} (h : x.v = vK k) : x.cs = encK k := by
  simp only [K2.v, vK, Value.agg.injEq, Array.mk.injEq, List.cons.injEq, and_true] at h
  obtain ⟨h0, h1⟩ := h
  simp [K2.cs, encK, h0, h1]

/-- the reference that a value reads as -/
def gK : Value → Tw
  | .agg l => match l.toList with
    | [.string a, .string b] => (a.data.toList, b.data.toList)
    | _ => default
  | _ => default
theorem gK_vK (k : KA) : gK (vK k) = k.1 := rfl

theorem keys_back : ∀ {ss : List K2} {l : List KA}, (∀ x ∈ ss, ∃ k : KA, x.v = vK k) → ∃ ks : List KA, ss.map K2.v = ks.map vK ∧ rowOf ss = ks.flatMap encK ∧ ss.length = ks.length
  | [], _, _ => ⟨[], rfl, rfl, rfl⟩
  | x :: r, l, h => by
    obtain ⟨k, hk⟩ := h x List.mem_cons_self
    obtain ⟨ks, h1, h2, h3⟩ := keys_back (l := l) (ss := r) fun y hy => h y (List.mem_cons_of_mem _ hy)
    refine ⟨k :: ks, by simp [hk, h1], ?_, by simp [h3]⟩
    simp only [rowOf, List.flatMap_cons] at h2 ⊢
    rw [h2, K2_vK hk]

theorem flat_get (ks : List KA) (j : Nat) (h : j < ks.length * 2) : (ks.flatMap encK)[j]? = some ((flatK encK 2 ks.toArray)[j]!) := by
  rw [get_flatK _ _ _ _ (by simpa using h)]
  induction ks generalizing j with
  | nil => simp at h
  | cons k r ih =>
    rw [List.flatMap_cons]
    by_cases hj : j < 2
    · rw [List.getElem?_append_left (by simpa [encK] using hj), show j / 2 = 0 by omega, show j % 2 = j by omega]
      simp only [List.getElem!_toArray, List.getElem!_cons_zero]
      rw [List.getElem?_eq_getElem (by simpa [encK] using hj), getElem!_pos _ _ (by simpa [encK] using hj)]
    · have hl : (encK k).length = 2 := rfl
      rw [List.getElem?_append_right (by omega), hl, ih (j - 2) (by simp at h; omega)]
      obtain ⟨q, hq⟩ : ∃ q, j / 2 = q + 1 := ⟨j / 2 - 1, by omega⟩
      rw [show (j - 2) / 2 = q by omega, show (j - 2) % 2 = j % 2 by omega, hq]
      simp

theorem holds_of {w : World} {g : Nat} {cells : Array Value} {T : TypeId} (ks : List KA) (hh : w.heap[g]? = some (.cells cells T (0, 0))) (ht : cells.toList.take (ks.length * 2) = ks.flatMap encK) (hc : ks.length * 2 ≤ cells.size) :
    HoldsK encK 2 w g 0 ks.toArray := by
  intro j hj
  have hj' : j < ks.length * 2 := by simpa using hj
  refine ⟨?_, ?_⟩
  · have h1 := flat_get ks j hj'
    rw [← ht, List.getElem?_take_of_lt hj'] at h1
    simp only [World.cell?, hh, Nat.zero_add, id]
    simpa using h1
  · simp [World.frozen?, hh]

theorem heap_sortWorldK {w : World} {g n k : Nat} {d : Array KA} {os : Array Obj} (hk : k ≠ g) (hl : k < w.heap.size) : (sortWorldK encK 2 w g 0 n d os).heap[k]? = w.heap[k]? := by
  unfold sortWorldK grow putRowK putRow mapBlock Sort.ahead
  simp only
  rw [Array.getElem?_append_left (by simpa using hl), Array.getElem?_modify, if_neg (by omega)]

set_option maxHeartbeats 2000000 in
theorem sorted_calls (Bm Bo b : Nat) (w : World) (hBm : Bm < w.heap.size) (K : Keyed Try.prog kT) (hm : w.cell? ⟨Bm, Bo, none⟩ = some (.map (some b))) {es : Array MapEntry} {clock : Nat} (hb : w.heap[b]? = some (.map es clock))
    {R : Value → Option (DataW Unit × List MemPlace)} (Ft : Fit Try.prog kT R es clock) (hN : es.size * 32 ≤ 140737488355328) (kl : List KA) (hkl : es.toList.map (·.key) = kl.map vK) :
    Calls Try.prog 14 #[.func (.func 32) #[] #[.pointer (some ⟨Bm, Bo, none⟩)], .func (.func 16) #[] #[]] w fun e w' =>
      ∃ (v : Value) (ks : List KA), e = .returned v ∧ ks.map (·.1) = sortK (kl.map (·.1)) ∧ RowKit.Below w.heap.size w w' ∧
        ((ks = [] ∧ v = .slice none 0 0) ∨ ∃ g cap, v = .slice (some ⟨g, 0, none⟩) ks.length cap ∧ ks.length ≤ cap ∧ w.heap.size ≤ g ∧ HoldsK encK 2 w' g 0 ks.toArray) := by
  have mixed : Try.prog.follows .mixedOrders = true := by kernel_rfl
  have hgot := callsIn_wide.1 (got Fence.wide 3 trivial trivial trivial rfl (by omega) Bm Bo b w hBm K hm hb Ft hN)
  have hlen : es.size = kl.length := by
    have := congrArg List.length hkl
    simpa using this
  have e48 : ∀ args w, (callFunc 30 args).run Try.prog w = .ok (.enter 30 args) w := enters_of Try.func30 (by kernel_rfl) rfl
  have e49 : ∀ args w, (callFunc 31 args).run Try.prog w = .ok (.enter 31 args) w := enters_of Try.func31 (by kernel_rfl) rfl
  -- what the sort does with the row that Collect made
  have hsort : ∀ (v : Value) (ss : List K2) (w2 : World), (ss.map K2.v).Perm (es.toList.map (·.key)) → w2.ownsRow w.heap.size kT 2 v ss.length (rowOf ss) → (v = .slice none 0 0 ↔ ss = []) → RowKit.Below w.heap.size w w2 →
      Calls Try.prog 31 #[v, .func (.func 16) #[] #[]] w2 fun e w' => e = .returned (.tuple #[]) ∧ ∃ ks : List KA, ks.map (·.1) = sortK (kl.map (·.1)) ∧ RowKit.Below w.heap.size w w' ∧
        ((ks = [] ∧ v = .slice none 0 0) ∨ ∃ g cap, v = .slice (some ⟨g, 0, none⟩) ks.length cap ∧ ks.length ≤ cap ∧ w.heap.size ≤ g ∧ HoldsK encK 2 w' g 0 ks.toArray) := by
    intro v ss w2 hp hown hnil hbel
    obtain ⟨ks, k1, k2, k3⟩ := keys_back (l := kl) (ss := ss) fun x hx => by
      have : x.v ∈ es.toList.map (·.key) := hp.mem_iff.1 (List.mem_map_of_mem hx)
      rw [hkl, List.mem_map] at this
      obtain ⟨k, _, hk⟩ := this
      exact ⟨k, hk.symm⟩
    have hpk : (ks.map (·.1)).Perm (kl.map (·.1)) := by
      have h1 := hp.map gK
      rw [k1, hkl, List.map_map, List.map_map] at h1
      rwa [show (gK ∘ vK) = (fun k : KA => k.1) from funext gK_vK] at h1
    obtain ⟨_, ⟨rfl, hz⟩ | ⟨g, cap, cur, rfl, hg, hh, hc, hcm, hcs, ht⟩⟩ := hown
    · obtain rfl := hnil.1 rfl
      obtain rfl : ks = [] := List.length_eq_zero_iff.1 (by rw [← k3]; rfl)
      refine (AnyF.slices_SortFunc_none (P := Try.prog) (ρ := Try.sortLr_ren) { Try.sortLr with } none 0 _ w2).mono ?_
      rintro e w' ⟨rfl, rfl⟩
      refine ⟨rfl, [], ?_, hbel, .inl ⟨rfl, rfl⟩⟩
      rw [← sortK_perm hpk]; simp [sortK]
    · have hne : ss ≠ [] := fun e => by have := hnil.2 e; simp at this
      have hH : HoldsK encK 2 w2 g 0 ks.toArray := holds_of ks hh (by rw [← k3, ht, k2]) (by rw [← k3, hcs]; exact Nat.mul_le_mul_right _ hc)
      have hgl : g < w2.heap.size := by
        rcases Nat.lt_or_ge g w2.heap.size with h | h
        · exact h
        · rw [Array.getElem?_eq_none h] at hh; simp at hh
      have hks : ks.length = kl.length := by simpa using hpk.length_eq
      have := AnyQ.slices_SortFunc_total Try.sortLr 2 Try.isAgg51 Try.sizeOf51 encK (fun _ => rfl) (fun x v hv => by simp [encK, bS] at hv; rcases hv with rfl | rfl <;> rfl) cfK swoK 16 #[] g 0 cap ks.toArray w2 eg16 (cmp_lays g 0 _ w2) hH hgl (by simp; omega) totK
      rw [show ks.toArray.size = ss.length by simp [k3]] at this
      refine this.mono ?_
      rintro e w' ⟨rfl, n, os, rfl⟩
      have hsz : (ks.mergeSort fun x y => !(ltOf cfK) y x).length = ks.length := (List.mergeSort_perm _ _).length_eq
      refine ⟨rfl, ks.mergeSort fun x y => !(ltOf cfK) y x, (sortA ks).trans (sortK_perm hpk), ?_, .inr ⟨g, cap, by rw [hsz, k3], by rw [hsz, ← k3]; exact hc, hg, ?_⟩⟩
      · refine hbel.trans ⟨rfl, rfl, rfl, ?_, fun k hk => ?_⟩
        · exact size_sortWorldK_c encK 2 w2 g 0 n _ os
        · exact heap_sortWorldK (by omega) (by have := hbel.size; omega)
      · exact holdsK_sortWorldK_c encK 2 w2 g 0 ks.toArray _ n os hH hgl (by simp [hsz])
  go_enter Try.func14, Try.ntmps14
  go_wp2_with (first | (go_at_call 30; refine hgot.mono ?_; rintro e w2 ⟨v, ss, rfl, h1, h2, h3, h4⟩) | (go_at_call 31; refine (hsort _ ss _ h1 h2 h3 h4).mono ?_; rintro e w3 ⟨rfl, ks, q1, q2, q3⟩))
  go_ret
  exact ⟨_, ks, rfl, q1, q2, q3⟩
end Go.Proofs.Ytcfdmfijlaafkaa

/-
  slices.SortedFunc(maps.Keys(m), refs.compare), TOLD TO THE ENGINE: the map's keys, sorted.
-/

namespace Go.Proofs.Ytcfdmfijlaafkaa
open Go.Eng Go.RowKit Go.Sort Go.Shelf Go.Maps Go.Proofs

set_option maxRecDepth 100000

theorem keys_of {C : Pay Pl} {cx : Cx Pl} : ∀ (es : List MapEntry) (l : List (Tw × Unit)), es.length = l.length → (∀ (i : Nat) e x, es[i]? = some e → l[i]? = some x → RD C cx e.key (.agg (cT x.1))) →
    ∃ kl : List KA, es.map (·.key) = kl.map vK ∧ kl.map (·.1) = l.map (·.1)
  | [], [], _, _ => ⟨[], rfl, rfl⟩
  | [], _ :: _, h, _ => by simp at h
  | _ :: _, [], h, _ => by simp at h
  | e :: r, x :: s, h, hr => by
    obtain ⟨hk, he⟩ := vK_inv (hr 0 e x rfl rfl)
    obtain ⟨kl, h1, h2⟩ := keys_of r s (by simpa using h) fun i e x he hx => hr (i + 1) e x (by simpa using he) (by simpa using hx)
    exact ⟨⟨x.1, hk⟩ :: kl, by simp [he, h1], by simp [h2]⟩

def rf (x : Tw) : RefR := ⟨x.1, x.2⟩

def shK : Bool × List KC := (true, [.s, .s])
theorem shK_ok : keyOkD Try.prog kT shK = true := by kernel_rfl

def pSorted : List (D Pl) → Option (Bool × D Pl)
  | [.fn 32 [.ref [.mr ⟨.map .two .unit, l⟩]], .fn 16 []] => some (Nat.ble (l.length * 32) big, .pl (pRefs ((sortK (l.map (·.1))).map rf)) .any)
  | _ => none

theorem enc_get (x : KA) (j : Nat) (h : j < 2) : (encK x)[j]? = some ((encK x)[j]!) := by
  have h' : j < (encK x).length := h
  rw [List.getElem?_eq_getElem h', getElem!_pos (encK x) j h']

theorem sorted_rd {cx : Cx Pl} {ks : List KA} {q : List Tw} {g cap : Nat} (hq : ks.map (·.1) = q) (hc : ks.length ≤ cap) (hb : ks.length * 32 ≤ big) (hav : ¬ cx.av g) (hH : HoldsK encK 2 cx.w g 0 ks.toArray) :
    RD X0.C cx (.slice (some ⟨g, 0, none⟩) ks.length cap) (.pl (pRefs (q.map rf)) .any) := by
  subst hq
  have hel : ∀ (i : Nat), i < ks.length → X0.C.elem (pRefs ((ks.map (·.1)).map rf)) i = cT (ks[i]!).1 := by
    intro i hi
    show cRef (((ks.map (·.1)).map rf).getD i default) = _
    rw [List.getD_eq_getElem?_getD, List.getElem?_map, List.getElem?_map, List.getElem?_eq_getElem hi, getElem!_pos ks i hi]
    rfl
  have hlt : ∀ (i j : Nat) (d : D Pl), i < ks.length → (X0.C.elem (pRefs ((ks.map (·.1)).map rf)) i)[j]? = some d → j < 2 := by
    intro i j d hi hd
    rw [hel i hi] at hd
    have := (List.getElem?_eq_some_iff.1 hd).1
    simpa [cT] using this
  have hcells : ∀ (i j : Nat) (d : D Pl), i < ks.length → (X0.C.elem (pRefs ((ks.map (·.1)).map rf)) i)[j]? = some d → (encK (ks[i]!))[j]? = some ((encK (ks[i]!))[j]!) := by
    intro i j d hi hd
    exact enc_get _ _ (hlt i j d hi hd)
  have hone : ∀ (x : KA) (j : Nat) v, (encK x)[j]? = some v → v.oneCell' = true ∧ ∀ d, (cT x.1)[j]? = some d → RD X0.C cx v d := by
    intro x j v hv
    have h := rd_vK x (C := X0.C) (cx := cx)
    cases h with
    | agg _ _ hs h1 hr => exact ⟨h1 j v (by simpa [encK] using hv), fun d hd => hr j v d (by simpa [encK] using hv) hd⟩
  refine .pl g 0 _ _ _ .any (fun i j => (encK (ks[i]!))[j]!) (by show _ = ((ks.map (·.1)).map rf).length; simp) hc hb trivial hav (fun i j d hi hd => ?_) (fun i j d hi hd => ?_) (fun i j d hi hd => ?_)
  · have hj := hlt i j d hi hd
    have hlt' : i * 2 + j < ks.length * 2 := by omega
    have := (hH (i * 2 + j) (by simpa using hlt')).1
    rw [id, get_flatK _ _ _ _ (by simpa using hlt'), show (i * 2 + j) / 2 = i by omega, show (i * 2 + j) % 2 = j by omega, List.getElem!_toArray] at this
    exact this
  · exact (hone _ _ _ (hcells i j d hi hd)).1
  · have h2 := (hone _ _ _ (hcells i j d hi hd)).2 d
    rw [hel i hi] at hd
    exact h2 hd

theorem pSorted_ok : ∀ ds b d, pSorted ds = some (b, d) → b = true → Snd 14 ds d := by
  intro ds b d h hb
  unfold pSorted at h
  split at h
  · rename_i l
    simp only [Option.some.injEq, Prod.mk.injEq] at h
    obtain ⟨rfl, rfl⟩ := h
    simp only [Nat.ble_eq] at hb
    intro w av vs hg hav hs hr
    obtain ⟨v0, v1, rfl⟩ : ∃ v0 v1, vs = #[v0, v1] := by
      obtain ⟨l⟩ := vs
      match l, hs with
      | [a, b], _ => exact ⟨a, b, rfl⟩
    have h0 := hr 0 _ _ rfl rfl
    have h1 := hr 1 _ _ rfl rfl
    cases h1 with
    | fn _ f1 a1 b1 c1 _ hcs1 hcr1 hm1 =>
    obtain rfl : c1 = #[] := by simpa using hcs1
    obtain ⟨rfl, rfl, rfl⟩ : f1 = 16 ∧ a1 = #[] ∧ b1 = #[] := by
      simp only [mkFn, show Nat.blt 16 mvB = true from rfl, cond_true, Value.func.injEq, Fn.func.injEq] at hm1
      exact hm1
    cases h0 with
    | fn _ f2 a2 b2 cb _ hcs hcr hm2 =>
    obtain ⟨u, rfl⟩ : ∃ u, cb = #[u] := by
      obtain ⟨l⟩ := cb
      match l, hcs with
      | [a], _ => exact ⟨a, rfl⟩
    obtain ⟨rfl, rfl, rfl⟩ : f2 = 32 ∧ a2 = #[] ∧ b2 = #[u] := by
      simp only [mkFn, show Nat.blt 32 mvB = true from rfl, cond_true, Value.func.injEq, Fn.func.injEq] at hm2
      exact hm2
    have hu := hcr 0 _ _ rfl rfl
    cases hu with
    | ref Bm Bo _ us hnav hcell _ hrd =>
    have hm := hcell 0 _ rfl
    have hmr := hrd 0 _ rfl
    generalize us 0 = um at hm hmr
    cases hmr with
    | mr bm clock es _ _ hh hsz _ hk _ =>
    have hlen : es.size = l.length := hsz.size
    obtain ⟨kl, hkl, hkl2⟩ := keys_of (C := X0.C) es.toList l (by simpa using hlen) fun i e x he hx => by
      have := hk i e (by simpa using he)
      rw [show X0.C.mkey (⟨.map .two .unit, l⟩ : Pl) i = .agg (cT x.1) from ?_] at this
      · exact this
      · show KT.enc .two ((l.getD i (KT.dflt .two, VT.dflt .unit)).1) = _
        rw [List.getD_eq_getElem?_getD, hx]
        rfl
    have hfit := fit_of (P := Try.prog) xok.pay (cx := cx0 w av) shK_ok hsz (by show l.length ≤ maxLen; unfold big at hb; unfold maxLen; omega) hk (fun i hi => rfl)
    have hBm : Bm < w.heap.size := by
      rcases Nat.lt_or_ge Bm w.heap.size with h | h
      · exact h
      · simp [World.cell?, cx0, Array.getElem?_eq_none h] at hm
    have hc := sorted_calls Bm Bo bm w hBm (keyed_ok shK_ok) hm hh hfit (by rw [hlen]; exact hb) kl hkl
    refine .inl ⟨?_, hc.mono ?_⟩
    · exact enters_of Try.func14 (by kernel_rfl) rfl _ _
    · rintro e w' ⟨v, ks, rfl, hks, hbel, hv⟩
      rw [hkl2] at hks
      have hkn : ks.length = l.length := by
        have := congrArg List.length hks
        rw [List.length_map] at this
        rw [this, sortK, (List.mergeSort_perm _ _).length_eq, List.length_map]
      refine ⟨v, rfl, ?_, .ofB hbel (fun h => by cases h), trivial⟩
      rcases hv with ⟨rfl, rfl⟩ | ⟨g, cap, rfl, hcap, hgl, hH⟩
      · rw [← hks]
        exact .pl0 none 0 _ .any rfl trivial
      · exact sorted_rd hks hcap (by rw [hkn]; exact hb) (fun h => by have := hav g h; omega) hH
  · simp at h
end Go.Proofs.Ytcfdmfijlaafkaa

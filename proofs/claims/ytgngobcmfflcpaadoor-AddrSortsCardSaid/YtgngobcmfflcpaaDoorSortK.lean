/-
  compareKeys IS WHAT THE LIBRARY MAY SORT BY: in whatever world it hands back the order's number, and all that it leaves are new blocks and draws; the order is total.
-/
import Derived.Test.YtgngobcmfflcpaaDoorCmp
import Derived.Test.YtgngobcmfflcpaaDoorGot
import Derived.Test.YtgngobcmfflcpaaDoorSLaw
import Derived.Shelf.SlSortCmp.NoneTotal
namespace Go.Proofs.YtgngobcmfflcpaaDoor
open Go.Eng Go.RowKit Go.Sort Go.Shelf Go.Proofs

set_option maxRecDepth 100000

def KOk (k : KeyR) : Prop := k.ty.length ≤ big ∧ k.name.length ≤ big ∧ inR .i64 k.kind = true ∧ inR .i64 k.i = true ∧ k.k.length ≤ big ∧ inR .u32 k.n = true
abbrev KA := {k : KeyR // KOk k}
instance : Inhabited KA := ⟨⟨⟨[], [], 0, 0, [], 0⟩, by decide, by decide, rfl, rfl, by decide, rfl⟩⟩
def bS (s : Str) : Value := .string ⟨s.toArray⟩
def encK (x : KA) : List Value := [bS x.1.ty, bS x.1.name, .int .i64 x.1.kind, .int .i64 x.1.i, bS x.1.k, .int .u32 x.1.n]
def vK (x : KA) : Value := .agg #[bS x.1.ty, bS x.1.name, .int .i64 x.1.kind, .int .i64 x.1.i, bS x.1.k, .int .u32 x.1.n]

theorem rd_bS {C : Pay Pl} {cx : Cx Pl} {s : Str} (h : s.length ≤ big) : RD C cx (bS s) (.str s) := .str _ _ rfl h
theorem rd_vK (x : KA) {C : Pay Pl} {cx : Cx Pl} : RD C cx (vK x) (.agg (cK x.1)) := by
  obtain ⟨h1, h2, h3, h4, h5, h6⟩ := x.2
  refine .agg _ _ rfl (fun i v hv => ?_) (fun i v c hv hc => ?_)
  · match i, hv with
    | 0, hv => cases hv; rfl
    | 1, hv => cases hv; rfl
    | 2, hv => cases hv; rfl
    | 3, hv => cases hv; rfl
    | 4, hv => cases hv; rfl
    | 5, hv => cases hv; rfl
    | i + 6, hv => simp at hv
  · match i, hv, hc with
    | 0, hv, hc => cases hv; cases hc; exact rd_bS h1
    | 1, hv, hc => cases hv; cases hc; exact rd_bS h2
    | 2, hv, hc => cases hv; cases hc; exact .int _ _ h3
    | 3, hv, hc => cases hv; cases hc; exact .int _ _ h4
    | 4, hv, hc => cases hv; cases hc; exact rd_bS h5
    | 5, hv, hc => cases hv; cases hc; exact .int _ _ h6
    | i + 6, hv, hc => simp at hv

theorem str_inv {C : Pay Pl} {cx : Cx Pl} {v : Value} {s : Str} (h : RD C cx v (.str s)) : v = bS s ∧ s.length ≤ big := by
  cases h with
  | str b _ h1 h2 =>
    subst h1
    exact ⟨by simp [bS], h2⟩
theorem int_inv {C : Pay Pl} {cx : Cx Pl} {v : Value} {k : IntKind} {n : Int} (h : RD C cx v (.int k n)) : v = .int k n ∧ inR k n = true := by
  cases h with
  | int _ _ h => exact ⟨rfl, h⟩
/-- What reads as a key is that key's value. -/
theorem vK_inv {C : Pay Pl} {cx : Cx Pl} {v : Value} {k : KeyR} (h : RD C cx v (.agg (cK k))) : ∃ hk : KOk k, v = vK ⟨k, hk⟩ := by
  cases h with
  | agg vs _ hs _ h =>
    obtain ⟨l⟩ := vs
    match l, hs with
    | [a, b, c, d, e, f], _ =>
      obtain ⟨h0, k0⟩ := str_inv (h 0 a _ rfl rfl)
      obtain ⟨h1, k1⟩ := str_inv (h 1 b _ rfl rfl)
      obtain ⟨h2, k2⟩ := int_inv (h 2 c _ rfl rfl)
      obtain ⟨h3, k3⟩ := int_inv (h 3 d _ rfl rfl)
      obtain ⟨h4, k4⟩ := str_inv (h 4 e _ rfl rfl)
      obtain ⟨h5, k5⟩ := int_inv (h 5 f _ rfl rfl)
      exact ⟨⟨k0, k1, k2, k3, k4, k5⟩, by rw [h0, h1, h2, h3, h4, h5]; rfl⟩

/-- Below the heap's end all is as it was, and the tape was only drawn on: blocks and draws are all. -/
theorem grown_of {w w' : World} (h : BelowD true w.heap.size w w') : ∃ q os, w' = grow (w.drewN q) os := by
  refine ⟨w'.drawn - w.drawn, w'.heap.extract w.heap.size w'.heap.size, ?_⟩
  have hd := h.drawn rfl
  have hh : w'.heap = w.heap ++ w'.heap.extract w.heap.size w'.heap.size := by
    refine Array.ext_getElem? fun i => ?_
    rw [Array.getElem?_append]
    split
    · rename_i hi; exact h.block i hi
    · rename_i hi
      rw [Array.getElem?_extract]
      by_cases h2 : i < w'.heap.size
      · rw [if_pos (by omega), show w.heap.size + (i - w.heap.size) = i by omega]
      · rw [if_neg (by omega), Array.getElem?_eq_none (by omega)]
  have h1 := h.os
  have h2 := h.tape
  have h3 := h.output
  have hd' : w'.drawn = w.drawn + (w'.drawn - w.drawn) := by omega
  generalize w'.heap.extract w.heap.size w'.heap.size = os at hh
  generalize w'.drawn - w.drawn = q at hd'
  cases w; cases w'
  simp only [grow, World.drewN] at *
  subst h1 h2 h3 hh hd'
  rfl

theorem eg35 : ∀ args w, (callFunc 35 args).run Tryd.prog w = .ok (.enter 35 args) w := enters_of Tryd.func35 (by kernel_rfl) rfl

theorem cmp_calls (x y : KA) (w : World) : Calls Tryd.prog 35 #[vK x, vK y] w fun e w' => e = .returned (.int .i64 (cmpK x.1 y.1)) ∧ ∃ q os, w' = grow (w.drewN q) os := by
  have h := Dr.cmpK_sound x.1 y.1 w (fun _ => False) #[vK x, vK y] (fun i cs h => by simp [X1, glb] at h) (fun _ h => h.elim) rfl (fun i v c hv hc => by
    match i, hv, hc with
    | 0, hv, hc => cases hv; cases hc; exact rd_vK x
    | 1, hv, hc => cases hv; cases hc; exact rd_vK y
    | i + 2, hv, hc => simp at hv)
  rcases h with ⟨_, h⟩ | ⟨v, w', h, _⟩
  · refine h.mono ?_
    rintro e w' ⟨v, rfl, h1, h2, _⟩
    obtain ⟨rfl, _⟩ := int_inv (show RD _ _ v (.int .i64 _) from h1)
    exact ⟨rfl, grown_of h2⟩
  · have h' := (eg35 #[vK x, vK y] w).symm.trans h
    simp at h'

def cfK (x y : KA) : Int := cmpK x.1 y.1

theorem cmp_lays (blk off size : Nat) (w : World) : CmpLays Tryd.prog 35 #[] encK 6 cfK blk off size w := fun _ _ _ _ x y => cmp_calls x y _

theorem lt_iff (x y : KA) : ltOf cfK x y = true ↔ cmpK x.1 y.1 < 0 := decide_eq_true_iff
theorem lt_not (x y : KA) : ltOf cfK x y = false ↔ cmpK y.1 x.1 ≤ 0 := by
  have h := pre_K.anti x.1 y.1
  have h2 : ltOf cfK x y = false ↔ ¬ cmpK x.1 y.1 < 0 := decide_eq_false_iff_not
  rw [h2, h]; omega

theorem swoK : SWO (ltOf cfK) where
  irrefl x := by
    rw [lt_not]
    have := pre_K.anti x.1 x.1
    omega
  trans x y z h1 h2 := by
    rw [lt_iff] at *
    have a1 := pre_K.anti x.1 y.1
    have a2 := pre_K.anti y.1 z.1
    have a3 := pre_K.anti x.1 z.1
    have h3 := pre_K.le x.1 y.1 z.1 (by omega) (by omega)
    by_cases h0 : cmpK x.1 z.1 = 0
    · have := pre_K.le z.1 x.1 y.1 (by omega) (by omega)
      omega
    · omega
  ntrans x y z h1 h2 := by
    rw [lt_not] at *
    exact pre_K.le _ _ _ h2 h1

theorem totK (x y : KA) (h1 : ltOf cfK x y = false) (h2 : ltOf cfK y x = false) : x = y := by
  rw [lt_not] at *
  have := pre_K.anti x.1 y.1
  exact Subtype.ext (cmpK_0 (by omega))

theorem sortA (l : List KA) : (l.mergeSort fun x y => !(ltOf cfK) y x).map (·.1) = sortK (l.map (·.1)) := by
  refine List.Perm.eq_of_pairwise (le := fun x y => leK x y = true) (fun a b _ _ h1 h2 => leK_anti a b h1 h2) ?_ (List.pairwise_mergeSort leK_trans leK_total _) (((List.mergeSort_perm _ _).map _).trans (List.mergeSort_perm _ _).symm)
  refine List.pairwise_map.2 ?_
  exact List.pairwise_mergeSort (le := fun x y : KA => !(ltOf cfK) y x) (fun a b c h1 h2 => leK_trans a.1 b.1 c.1 h1 h2) (fun a b => leK_total a.1 b.1) l
end Go.Proofs.YtgngobcmfflcpaaDoor

/-
  TEXTS OF ADDRESSES, IN PLAIN LEAN: what is printed is read again, by the program's way and by the document's.
-/
import Derived.Test.YtlfohmdclcdejaaDoorChecks
import Derived.Test.YtlfohmdclcdejaaDoorTextsLaw
import Derived.Lib.IndexMore
import Derived.Lib.Strings
namespace Go.Proofs.YtlfohmdclcdejaaDoor
open Go.Eng
open Nu (parseV refParseV back isD dec_ok byt_get parse_eq)

set_option maxRecDepth 100000

def printV (a : KeyR) : Str := (a.ty ++ [46] ++ a.name) ++ (bif a.kind == 1 then [91] ++ Lib.itoa a.i ++ [93] else bif a.kind == 2 then [91, 34] ++ a.k ++ [34, 93] else [])

def kZ : KeyR := ⟨[], [], .ofNat 0, .ofNat 0, [], .ofNat 0⟩
def lastV (a : KeyR) (u : Str) : KeyR := bif Lib.hasPrefix u [34] then ⟨a.ty, a.name, .ofNat 2, a.i, Lib.trimSuffix (Lib.trimPrefix u [34]) [34], .ofNat 0⟩ else ⟨a.ty, a.name, .ofNat 1, (parseV u).1, a.k, .ofNat 0⟩
def cand0 (s : Str) : KeyR := ⟨(Lib.cut (Lib.cut s [91]).1 [46]).1, (Lib.cut (Lib.cut s [91]).1 [46]).2.1, .ofNat 0, .ofNat 0, [], .ofNat 0⟩
def cand1 (s : Str) : KeyR := bif (Lib.cut s [91]).2.2 then lastV (cand0 s) (Lib.trimSuffix (Lib.cut s [91]).2.1 [93]) else cand0 s

/-- where a byte is first, among the first ones; -1: nowhere -/
def fsI (s : Str) (c : Int) : Nat → Int
  | 0 => -1
  | i + 1 => bif (bif byt s i == c then decide (fsI s c i < 0) else false) then (i : Int) else fsI s c i

def keyV (a : KeyR) (t : Str) : KeyR := bif (bif decide ((t.length : Int) ≥ 3) then byt t 0 == 34 else false) then ⟨a.ty, a.name, .ofNat 2, a.i, (t.drop 1).take (t.length - 3), .ofNat 0⟩
  else bif decide ((t.length : Int) > 0) then ⟨a.ty, a.name, .ofNat 1, (refParseV (t.take (t.length - 1))).1, a.k, .ofNat 0⟩ else a
def cand2 (s : Str) (d o : Int) : KeyR := bif decide (o ≥ 0) then keyV ⟨s.take d.toNat, (s.drop (d.toNat + 1)).take (o.toNat - (d.toNat + 1)), .ofNat 0, .ofNat 0, [], .ofNat 0⟩ (s.drop (o.toNat + 1))
  else ⟨s.take d.toNat, s.drop (d.toNat + 1), .ofNat 0, .ofNat 0, [], .ofNat 0⟩
def noC (d o : Int) : Bool := bif decide (d < 0) then true else bif decide (o ≥ 0) then decide (o < d) else false

-- where a byte is

theorem dropL (l t : Str) : (l ++ t).drop l.length = t := by simp
theorem takeL (l t : Str) : (l ++ t).take l.length = l := by simp

theorem index_at (c : UInt8) (t : Str) : ∀ h : Str, (∀ x ∈ h, x ≠ c) → Lib.index (h ++ c :: t) [c] = h.length
  | [], _ => by simp [Lib.index]
  | x :: h, hx => by
    have h1 : (c == x) = false := beq_eq_false_iff_ne.2 fun e => hx x (by simp) e.symm
    have h2 := index_at c t h fun y hy => hx y (by simp [hy])
    rw [List.cons_append, Lib.index]
    simp only [List.isPrefixOf, h1, Bool.false_and, Bool.false_eq_true, if_false]
    rw [h2, if_neg (by simp), List.length_cons]; omega

theorem index_no (c : UInt8) : ∀ h : Str, (∀ x ∈ h, x ≠ c) → Lib.index h [c] = -1
  | [], _ => rfl
  | x :: h, hx => by
    have h1 : (c == x) = false := beq_eq_false_iff_ne.2 fun e => hx x (by simp) e.symm
    have h2 := index_no c h fun y hy => hx y (by simp [hy])
    rw [Lib.index]
    simp only [List.isPrefixOf, h1, Bool.false_and, Bool.false_eq_true, if_false]
    rw [h2]; rfl

theorem cut_at {c : UInt8} {h t : Str} (hx : ∀ x ∈ h, x ≠ c) : Lib.cut (h ++ c :: t) [c] = (h, t, true) := by
  unfold Lib.cut
  rw [index_at c t h hx, if_pos (by omega), Int.toNat_natCast]
  simp

theorem cut_no {c : UInt8} {h : Str} (hx : ∀ x ∈ h, x ≠ c) : Lib.cut h [c] = (h, [], false) := by
  unfold Lib.cut
  rw [index_no c h hx, if_neg (by omega)]

theorem trim_at (h : Str) (c : UInt8) : Lib.trimSuffix (h ++ [c]) [c] = h := by
  unfold Lib.trimSuffix Lib.hasSuffix
  rw [if_pos (by simp [List.isSuffixOf])]
  simp

theorem fs_no {s : Str} {c : Int} : ∀ n, (∀ j, j < n → byt s j ≠ c) → fsI s c n = -1
  | 0, _ => rfl
  | n + 1, h => by
    rw [fsI, show (byt s n == c) = false from beq_eq_false_iff_ne.2 (h n (by omega))]
    exact fs_no n fun j hj => h j (by omega)

theorem fs_at {s : Str} {c : Int} {p : Nat} (h0 : ∀ j, j < p → byt s j ≠ c) (h1 : byt s p = c) : ∀ n, p < n → fsI s c n = (p : Int)
  | 0, h => by omega
  | n + 1, h => by
    rw [fsI]
    by_cases hn : p < n
    · rw [fs_at h0 h1 n hn, decide_eq_false (show ¬ (p : Int) < 0 by omega)]
      cases byt s n == c <;> rfl
    · obtain rfl : p = n := by omega
      rw [fs_no p h0, h1, beq_self_eq_true]; rfl

theorem byt_left {h t : Str} {j : Nat} (hj : j < h.length) : byt (h ++ t) j = Int.ofNat h[j].toNat := by
  rw [byt_get (by rw [List.length_append]; omega), List.getElem_append_left hj]
theorem byt_mid {h t : Str} {c : UInt8} : byt (h ++ c :: t) h.length = Int.ofNat c.toNat := by
  rw [byt_get (by rw [List.length_append, List.length_cons]; omega), List.getElem_append_right (Nat.le_refl _)]
  simp

theorem fs_split {h t : Str} {c : UInt8} (hx : ∀ x ∈ h, x ≠ c) : fsI (h ++ c :: t) (Int.ofNat c.toNat) (h ++ c :: t).length = (h.length : Int) :=
  fs_at (fun j hj => by
    rw [byt_left hj]
    intro e
    rw [Int.ofNat_eq_natCast, Int.ofNat_eq_natCast] at e
    exact hx _ (List.getElem_mem hj) (UInt8.toNat_inj.1 (by omega))) byt_mid _ (by rw [List.length_append, List.length_cons]; omega)
theorem fs_none {s : Str} {c : UInt8} (hx : ∀ x ∈ s, x ≠ c) : fsI s (Int.ofNat c.toNat) s.length = -1 :=
  fs_no _ fun j hj => by
    rw [byt_get hj]
    intro e
    rw [Int.ofNat_eq_natCast, Int.ofNat_eq_natCast] at e
    exact hx _ (List.getElem_mem hj) (UInt8.toNat_inj.1 (by omega))

-- what names and words don't have

theorem allB_mem {P : Int → Bool} {s : Str} (h : allB P s = true) : ∀ x ∈ s, P (Int.ofNat x.toNat) = true := by
  intro x hx
  obtain ⟨i, hi, rfl⟩ := List.mem_iff_getElem.1 hx
  unfold allB at h
  simp only [List.all_eq_true, List.mem_range] at h
  have := h i hi
  rwa [byt_get hi] at this

theorem spelt_mem {P : Int → Bool} {s : Str} (h : spelt P s = true) : ∀ x ∈ s, P (Int.ofNat x.toNat) = true := by
  unfold spelt at h
  cases hb : lenBad s with
  | true => rw [hb] at h; cases h
  | false => rw [hb] at h; exact allB_mem h

theorem name_no {s : Str} (h : nameV s = true) {c : UInt8} (hc : nameB (Int.ofNat c.toNat) = false) : ∀ x ∈ s, x ≠ c := by
  intro x hx e
  subst e
  unfold nameV at h
  cases hs : spelt nameB s with
  | true => have := spelt_mem hs x hx; rw [this] at hc; cases hc
  | false => rw [hs] at h; cases h

theorem okA_cases {a : KeyR} (h : okA a = true) : nameV a.ty = true ∧ nameV a.name = true ∧ ((a.kind = 0 ∧ a.i = 0 ∧ a.k = []) ∨ (a.kind = 1 ∧ 0 ≤ a.i ∧ a.i < 128 ∧ a.k = []) ∨ (a.kind = 2 ∧ a.i = 0 ∧ spelt wordB a.k = true)) := by
  unfold okA at h
  cases h1 : nameV a.ty with
  | false => rw [h1] at h; cases h
  | true =>
  cases h2 : nameV a.name with
  | false => rw [h1, h2] at h; cases h
  | true =>
  rw [h1, h2] at h
  simp only [cond_true] at h
  refine ⟨rfl, rfl, ?_⟩
  cases h3 : a.kind == 0 with
  | true =>
    rw [h3] at h
    simp only [cond_true] at h
    cases h4 : a.i == 0 with
    | false => rw [h4] at h; cases h
    | true => rw [h4] at h; exact .inl ⟨by simpa using h3, by simpa using h4, by simpa using h⟩
  | false =>
    rw [h3] at h
    simp only [cond_false] at h
    cases h4 : a.kind == 1 with
    | true =>
      rw [h4] at h
      simp only [cond_true] at h
      cases h5 : decide (a.i ≥ 0) with
      | false => rw [h5] at h; cases h
      | true =>
      cases h6 : decide (a.i < 128) with
      | false => rw [h5, h6] at h; cases h
      | true => rw [h5, h6] at h; exact .inr (.inl ⟨by simpa using h4, of_decide_eq_true h5, of_decide_eq_true h6, by simpa using h⟩)
    | false =>
      rw [h4] at h
      simp only [cond_false] at h
      cases h5 : a.kind == 2 with
      | false => rw [h5] at h; cases h
      | true =>
      rw [h5] at h
      simp only [cond_true] at h
      cases h6 : a.i == 0 with
      | false => rw [h6] at h; cases h
      | true => rw [h6] at h; exact .inr (.inr ⟨by simpa using h5, by simpa using h6, h⟩)

theorem itoa_head {i : Int} (h0 : 0 ≤ i) : ∃ c r, Lib.itoa i = c :: r ∧ isD c := by
  obtain ⟨u, rfl⟩ : ∃ u : Nat, i = u := ⟨i.toNat, by omega⟩
  obtain ⟨d1, _, c, r, d3, _⟩ := dec_ok u
  exact ⟨c, r, by rw [Lib.itoa_nonneg, d3], d1 c (by rw [d3]; simp)⟩

theorem cand1_print {a : KeyR} (h : okA a = true) : cand1 (printV a) = ad0 a := by
  obtain ⟨ht, hn, hk⟩ := okA_cases h
  have t91 : ∀ x ∈ a.ty, x ≠ (91 : UInt8) := name_no ht (by decide)
  have t46 : ∀ x ∈ a.ty, x ≠ (46 : UInt8) := name_no ht (by decide)
  have n91 : ∀ x ∈ a.name, x ≠ (91 : UInt8) := name_no hn (by decide)
  have hd : ∀ x ∈ a.ty ++ [46] ++ a.name, x ≠ (91 : UInt8) := by
    intro x hx
    rcases List.mem_append.1 hx with hx | hx
    · rcases List.mem_append.1 hx with hx | hx
      · exact t91 x hx
      · simp only [List.mem_singleton] at hx; subst hx; decide
    · exact n91 x hx
  have c2 : Lib.cut (a.ty ++ [46] ++ a.name) [46] = (a.ty, a.name, true) := by
    rw [show a.ty ++ [46] ++ a.name = a.ty ++ 46 :: a.name by simp]
    exact cut_at t46
  rcases hk with ⟨k0, i0, kk⟩ | ⟨k1, i0, i1, kk⟩ | ⟨k2, i0, kw⟩
  · have hp : printV a = a.ty ++ [46] ++ a.name := by unfold printV; rw [k0]; exact List.append_nil _
    unfold cand1 cand0 ad0
    rw [hp, cut_no hd]
    simp only [cond_false]
    rw [c2, k0, i0, kk]; rfl
  · have hp : printV a = (a.ty ++ [46] ++ a.name) ++ 91 :: (Lib.itoa a.i ++ [93]) := by unfold printV; rw [k1]; simp
    obtain ⟨c, r, hc, hcd⟩ := itoa_head i0
    have hpre : Lib.hasPrefix (Lib.itoa a.i) [34] = false := by
      rw [hc]
      unfold Lib.hasPrefix
      have : ((34 : UInt8) == c) = false := beq_eq_false_iff_ne.2 fun e => by subst e; unfold isD at hcd; revert hcd; decide
      simp [List.isPrefixOf, this]
    unfold cand1 cand0 lastV ad0
    rw [hp, cut_at hd]
    simp only [cond_true]
    rw [trim_at, hpre, cond_false, c2, back (by omega) (by omega), k1, kk]; rfl
  · have hp : printV a = (a.ty ++ [46] ++ a.name) ++ 91 :: ((34 :: a.k ++ [34]) ++ [93]) := by unfold printV; rw [k2]; simp
    have hpre : Lib.hasPrefix (34 :: a.k ++ [34]) [34] = true := by simp [Lib.hasPrefix, List.isPrefixOf]
    have htp : Lib.trimPrefix (34 :: a.k ++ [34]) [34] = a.k ++ [34] := by unfold Lib.trimPrefix; rw [if_pos hpre]; rfl
    unfold cand1 cand0 lastV ad0
    rw [hp, cut_at hd]
    simp only [cond_true]
    rw [trim_at, hpre, cond_true, htp, trim_at, c2, k2, i0]; rfl

theorem cand2_print {a : KeyR} (h : okA a = true) : noC (fsI (printV a) 46 (printV a).length) (fsI (printV a) 91 (printV a).length) = false ∧
    cand2 (printV a) (fsI (printV a) 46 (printV a).length) (fsI (printV a) 91 (printV a).length) = ad0 a := by
  obtain ⟨ht, hn, hk⟩ := okA_cases h
  have t91 : ∀ x ∈ a.ty, x ≠ (91 : UInt8) := name_no ht (by decide)
  have t46 : ∀ x ∈ a.ty, x ≠ (46 : UInt8) := name_no ht (by decide)
  have n91 : ∀ x ∈ a.name, x ≠ (91 : UInt8) := name_no hn (by decide)
  have hd : ∀ x ∈ a.ty ++ [46] ++ a.name, x ≠ (91 : UInt8) := by
    intro x hx
    rcases List.mem_append.1 hx with hx | hx
    · rcases List.mem_append.1 hx with hx | hx
      · exact t91 x hx
      · simp only [List.mem_singleton] at hx; subst hx; decide
    · exact n91 x hx
  have dot : ∀ t, fsI (a.ty ++ [46] ++ a.name ++ t) 46 (a.ty ++ [46] ++ a.name ++ t).length = (a.ty.length : Int) := by
    intro t
    rw [show a.ty ++ [46] ++ a.name ++ t = a.ty ++ 46 :: (a.name ++ t) by simp]
    exact fs_split (c := 46) t46
  have open_ : ∀ t, fsI (a.ty ++ [46] ++ a.name ++ 91 :: t) 91 (a.ty ++ [46] ++ a.name ++ 91 :: t).length = ((a.ty.length + 1 + a.name.length : Nat) : Int) := by
    intro t
    have := fs_split (h := a.ty ++ [46] ++ a.name) (t := t) (c := 91) hd
    rw [show (a.ty ++ [46] ++ a.name : Str).length = a.ty.length + 1 + a.name.length by simp; omega] at this
    exact this
  have tk : ∀ t, (a.ty ++ [46] ++ a.name ++ t).take a.ty.length = a.ty := by intro t; simp [List.append_assoc]
  have dr : ∀ t, (a.ty ++ [46] ++ a.name ++ t).drop (a.ty.length + 1) = a.name ++ t := by
    intro t
    have h := dropL (a.ty ++ [46]) (a.name ++ t)
    rw [show (a.ty ++ [46] : Str).length = a.ty.length + 1 by simp, ← List.append_assoc] at h
    exact h
  have rest_ : ∀ t, (a.ty ++ [46] ++ a.name ++ 91 :: t).drop (a.ty.length + 1 + a.name.length + 1) = t := by
    intro t
    have h := dropL (a.ty ++ [46] ++ a.name ++ [91]) t
    rw [show (a.ty ++ [46] ++ a.name ++ [91] : Str).length = a.ty.length + 1 + a.name.length + 1 by simp; omega, show a.ty ++ [46] ++ a.name ++ [91] ++ t = a.ty ++ [46] ++ a.name ++ 91 :: t by simp] at h
    exact h
  have nc : noC (a.ty.length : Int) ((a.ty.length + 1 + a.name.length : Nat) : Int) = false := by
    unfold noC
    rw [decide_eq_false (show ¬ (a.ty.length : Int) < 0 by omega), cond_false, decide_eq_true (show ((a.ty.length + 1 + a.name.length : Nat) : Int) ≥ 0 by omega), cond_true]
    exact decide_eq_false (by omega)
  have c2 : ∀ t, cand2 (a.ty ++ [46] ++ a.name ++ 91 :: t) (a.ty.length : Int) ((a.ty.length + 1 + a.name.length : Nat) : Int) = keyV ⟨a.ty, a.name, .ofNat 0, .ofNat 0, [], .ofNat 0⟩ t := by
    intro t
    unfold cand2
    rw [decide_eq_true (show ((a.ty.length + 1 + a.name.length : Nat) : Int) ≥ 0 by omega), cond_true, Int.toNat_natCast, Int.toNat_natCast, tk, dr, rest_,
      show a.ty.length + 1 + a.name.length - (a.ty.length + 1) = a.name.length by omega, takeL]
  rcases hk with ⟨k0, i0, kk⟩ | ⟨k1, i0, i1, kk⟩ | ⟨k2, i0, kw⟩
  · have hp : printV a = a.ty ++ [46] ++ a.name ++ [] := by unfold printV; rw [k0]; rfl
    have ho : fsI (a.ty ++ [46] ++ a.name ++ []) 91 (a.ty ++ [46] ++ a.name ++ []).length = -1 := by rw [List.append_nil]; exact fs_none (c := 91) hd
    rw [hp, dot, ho]
    refine ⟨by unfold noC; rw [decide_eq_false (show ¬ (a.ty.length : Int) < 0 by omega)]; rfl, ?_⟩
    unfold cand2 ad0
    rw [show decide ((-1 : Int) ≥ 0) = false from rfl, cond_false, Int.toNat_natCast, tk, dr, List.append_nil, k0, i0, kk]; rfl
  · have hp : printV a = a.ty ++ [46] ++ a.name ++ 91 :: (Lib.itoa a.i ++ [93]) := by unfold printV; rw [k1]; simp
    obtain ⟨c, r, hc, hcd⟩ := itoa_head i0
    rw [hp, dot, open_]
    refine ⟨nc, ?_⟩
    rw [c2]
    unfold keyV ad0
    have h34 : (byt (Lib.itoa a.i ++ [93]) 0 == 34) = false := by
      rw [hc, show byt (c :: r ++ [93]) 0 = Int.ofNat c.toNat from rfl, Int.ofNat_eq_natCast, beq_eq_false_iff_ne]
      unfold isD at hcd; omega
    have hgt : decide (((Lib.itoa a.i ++ [93] : Str).length : Int) > 0) = true := decide_eq_true (by simp only [List.length_append, List.length_singleton]; omega)
    have hff : (bif decide (((Lib.itoa a.i ++ [93] : Str).length : Int) ≥ 3) then false else false) = false := by cases decide (((Lib.itoa a.i ++ [93] : Str).length : Int) ≥ 3) <;> rfl
    rw [h34, hff, hgt]
    simp only [cond_true, cond_false]
    rw [show (Lib.itoa a.i ++ [93] : Str).length - 1 = (Lib.itoa a.i).length by simp, takeL, ← parse_eq, back (by omega) (by omega), k1, kk]; rfl
  · have hp : printV a = a.ty ++ [46] ++ a.name ++ 91 :: (34 :: a.k ++ [34, 93]) := by unfold printV; rw [k2]; simp
    rw [hp, dot, open_]
    refine ⟨nc, ?_⟩
    rw [c2]
    unfold keyV ad0
    have hge : decide (((34 :: a.k ++ [34, 93] : Str).length : Int) ≥ 3) = true := decide_eq_true (by simp only [List.length_append, List.length_cons, List.length_nil]; omega)
    rw [hge, show (byt (34 :: a.k ++ [34, 93]) 0 == 34) = true from rfl]
    simp only [cond_true]
    rw [show (34 :: a.k ++ [34, 93] : Str).length - 3 = a.k.length by simp, show List.drop 1 (34 :: a.k ++ [34, 93] : Str) = a.k ++ [34, 93] from rfl, takeL, k2, i0]; rfl

def parse1 (s : Str) : KeyR × Int := bif (bif okA (cand1 s) then printV (cand1 s) == s else false) then (cand1 s, 0) else (kZ, 4)
def parse2 (s : Str) (d o : Int) : KeyR × Int := bif noC d o then (kZ, 4) else bif (bif okA (cand2 s d o) then printV (cand2 s d o) == s else false) then (cand2 s d o, 0) else (kZ, 4)

theorem printV_ad0 (a : KeyR) : printV (ad0 a) = printV a := rfl
theorem okA_ad0 (a : KeyR) : okA (ad0 a) = okA a := rfl
theorem ad0_cand1 (s : Str) : ad0 (cand1 s) = cand1 s := by
  unfold cand1 lastV
  cases (Lib.cut s [91]).2.2 with
  | false => rfl
  | true => simp only [cond_true]; cases Lib.hasPrefix (Lib.trimSuffix (Lib.cut s [91]).2.1 [93]) [34] <;> rfl
theorem ad0_cand2 (s : Str) (d o : Int) : ad0 (cand2 s d o) = cand2 s d o := by
  unfold cand2 keyV
  cases decide (o ≥ 0) with
  | false => rfl
  | true =>
    simp only [cond_true]
    generalize (bif decide (((s.drop (o.toNat + 1)).length : Int) ≥ 3) then byt (s.drop (o.toNat + 1)) 0 == 34 else false) = x
    generalize decide (((s.drop (o.toNat + 1)).length : Int) > 0) = y
    cases x <;> cases y <;> rfl

theorem parses_eq (s : Str) : parse1 s = parse2 s (fsI s 46 s.length) (fsI s 91 s.length) := by
  unfold parse1 parse2
  cases h1 : (bif okA (cand1 s) then printV (cand1 s) == s else false) with
  | true =>
    have ho : okA (cand1 s) = true := by cases ho : okA (cand1 s) with
      | true => rfl
      | false => rw [ho] at h1; cases h1
    rw [ho, cond_true] at h1
    have hs : printV (cand1 s) = s := by simpa using h1
    obtain ⟨h2, h3⟩ := cand2_print ho
    rw [hs, ad0_cand1] at h3
    rw [hs] at h2
    rw [h2, h3, ho, hs]
    simp only [cond_true, cond_false, beq_self_eq_true]
  | false =>
    cases h2 : noC (fsI s 46 s.length) (fsI s 91 s.length) with
    | true => rfl
    | false =>
      cases h3 : (bif okA (cand2 s (fsI s 46 s.length) (fsI s 91 s.length)) then printV (cand2 s (fsI s 46 s.length) (fsI s 91 s.length)) == s else false) with
      | false => rfl
      | true =>
        exfalso
        generalize hc : cand2 s (fsI s 46 s.length) (fsI s 91 s.length) = c at h3
        have ho : okA c = true := by cases ho : okA c with
          | true => rfl
          | false => rw [ho] at h3; cases h3
        rw [ho, cond_true] at h3
        have hs : printV c = s := by simpa using h3
        have h4 := cand1_print ho
        rw [hs] at h4
        rw [h4, okA_ad0, ho, printV_ad0, hs] at h1
        simp at h1

theorem parse_print {a : KeyR} (h : okA a = true) : parse1 (printV a) = (ad0 a, 0) := by
  unfold parse1
  rw [cand1_print h, okA_ad0, h, printV_ad0]
  simp

end Go.Proofs.YtlfohmdclcdejaaDoor

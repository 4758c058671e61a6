/-
  strings.IndexAny OF ANY BYTES, where what is looked for is four bytes below 128: the library's own text, walked.
-/
import Derived.Shelf.Strings.IndexAnyAll
import Derived.Shelf.Small.Utf8
import Derived.Laws.RangeAny
import Derived.Laws.Runes
import Derived.Lib.IndexLaws
import Derived.BigQuiet
import Derived.Shelf.RegionOpenPlain
import Derived.Lib.OthersKept
namespace Go.Proofs.YtmhmelmoionoiaaGreatDoor
open Go.Shelf Go.RowKit Go.Lib Go.Proofs
variable {P : Program} {ρ : Ren}

theorem drewN_below (w : World) (n : Nat) : Below w.heap.size w (w.drewN n) := by
  induction n with
  | zero => exact Below.refl _ _
  | succ n ih => exact ih.drew

theorem byteNone (l : List UInt8) (c : UInt8) (h : ∀ b ∈ l, b.toNat < 128) (hc : 128 ≤ c.toNat) : Lib.indexByte l c = -1 := by
  induction l with
  | nil => rfl
  | cons b l ih =>
    have h1 := h b (by simp)
    have hb : (b == c) = false := beq_eq_false_iff_ne.2 fun e => by rw [e] at h1; omega
    have := ih fun x hx => h x (by simp [hx])
    simp [Lib.indexByte, hb, this]

set_option maxHeartbeats 4000000 in
set_option maxRecDepth 1000000 in
/-- strings.IndexRune of four bytes below 128, at a rune that is none. -/
theorem indexRune_bad (L : Lays.n152 P ρ) (a b c d : UInt8) (r : Int) (w : World) (hv : Lib.validRune r = false) (h128 : 128 ≤ r) (hr : r ≠ 65533) :
    Calls P (ρ.f 152) #[.string ⟨#[a, b, c, d]⟩, .int .i32 r] w fun e w' => e = .returned (.int .i64 (-1)) ∧ w' = w := by
  have mixed := L.mixed
  have t3 := L.t3; have a3 := L.a3; have z3 := L.z3; have v3 := L.v3
  have t4 := L.t4; have a4 := L.a4; have z4 := L.z4; have v4 := L.v4
  have t5 := L.t5; have a5 := L.a5; have z5 := L.z5; have v5 := L.v5
  have t9 := L.t9; have a9 := L.a9; have z9 := L.z9; have v9 := L.v9
  have t21 := L.t21; have a21 := L.a21; have z21 := L.z21; have v21 := L.v21
  have e119 : ∀ args w, (callFunc (ρ.f 119) args).run P w = .ok (.enter (ρ.f 119) args) w := enters_of L.f119 (by kernel_rfl) rfl
  have hn : ¬ (r < 128) := by omega
  have h65 : (r == 65533) = false := beq_eq_false_iff_ne.2 hr
  go_enter L.f152, Body.n152_ntmps ρ
  go_wp2_with (go_at_fn (ρ.f 119); refine (Any.utf8_ValidRune { L with } _ _).mono ?_; rintro e w' ⟨rfl, hw⟩; rw [hw, hv])
  go_ret
  exact ⟨rfl, rfl⟩


set_option maxHeartbeats 4000000 in
set_option maxRecDepth 1000000 in
/-- strings.IndexRune of bytes below 128, at the rune of an error. -/
theorem indexRune_err (L : Lays.n152 P ρ) (s : ByteArray) (w : World) (hs : ∀ (j : Nat) b, s.data.toList[j]? = some b → b.toNat < 128) :
    Calls P (ρ.f 152) #[.string s, .int .i32 65533] w fun e w' => e = .returned (.int .i64 (-1)) ∧ ∃ pos, w' = w.iter s pos := by
  have HA : Aside (∀ (j : Nat) b, s.data.toList[j]? = some b → b.toNat < 128) := hs
  clear hs
  have mixed := L.mixed
  have t3 := L.t3; have a3 := L.a3; have z3 := L.z3; have v3 := L.v3
  have t4 := L.t4; have a4 := L.a4; have z4 := L.z4; have v4 := L.v4
  have t5 := L.t5; have a5 := L.a5; have z5 := L.z5; have v5 := L.v5
  have t9 := L.t9; have a9 := L.a9; have z9 := L.z9; have v9 := L.v9
  have t21 := L.t21; have a21 := L.a21; have z21 := L.z21; have v21 := L.v21
  go_enter L.f152, Body.n152_ntmps ρ
  go_wp2
  go_loopg [5, 6] s.size (fun g _ _ wx => ∃ i : Nat, i + g = s.size ∧ wx = w.iter s i)
  case atStart => exact ⟨0, by omega, rfl⟩
  case round =>
    obtain ⟨i, hig, rfl⟩ := hrel
    cases gk with
    | zero =>
      obtain rfl : i = s.size := by omega
      have hnx := run_next_end (P := P) w s s.size
      go_wp2
      go_ret
      exact ⟨rfl, _, rfl⟩
    | succ g =>
      have hi : i < s.size := by omega
      obtain ⟨x, hx⟩ : ∃ x : UInt8, s[i]'hi = x := ⟨_, rfl⟩
      have hxl : s.data.toList[i]? = some x := by rw [← hx]; exact Lib.data_getElem? s i hi
      have hx128 : x.toNat < 128 := HA.out i x hxl
      have hnx := fun ty => run_next_ascii (P := P) w s i ty hi (by rw [hx]; exact hx128)
      rw [hx] at hnx
      have hne : ((x.toNat : Int) == 65533) = false := beq_eq_false_iff_ne.2 (by omega)
      clear hxl hx
      go_wp2
      go_roundg g
      case measure => omega
      case rel => exact ⟨i + 1, by omega, rfl⟩

set_option maxHeartbeats 4000000 in
set_option maxRecDepth 1000000 in
/-- strings.IndexRune of four bytes below 128, at a rune of 2 bytes. -/
theorem indexRune_two (L : Lays.n152 P ρ) (a b c d x y : UInt8) (r : Int) (w : World) (hv : Lib.validRune r = true) (h128 : 128 ≤ r) (hr : r ≠ 65533) (he : Utf8.encode r = ⟨#[x, y]⟩) (hy : 128 ≤ y.toNat)
    (hs : ∀ z ∈ (⟨#[a, b, c, d]⟩ : ByteArray).data.toList, z.toNat < 128) :
    Calls P (ρ.f 152) #[.string ⟨#[a, b, c, d]⟩, .int .i32 r] w fun e w' => e = .returned (.int .i64 (-1)) ∧ Below w.heap.size w w' := by
  have hby : b ≠ y := fun e => by have := hs b (by simp); rw [e] at this; omega
  have hcall : ∀ W, Calls P (ρ.f 137) #[.string ((⟨#[a, b, c, d]⟩ : ByteArray).extract 2 4), .int .u8 (y.toNat : Int)] W fun e w' => e = .returned (.int .i64 (-1)) ∧ w' = W := fun W =>
    (Any.strings_IndexByte { L with } _ _ W).mono (by
      rintro e w' ⟨rfl, h⟩
      rw [byteNone _ _ (fun z hz => hs z (mem_extract hz)) (by simpa using hy)]
      exact ⟨rfl, h⟩)
  have HC : Aside (∀ W, Calls P (ρ.f 137) #[.string ((⟨#[a, b, c, d]⟩ : ByteArray).extract 2 4), .int .u8 (y.toNat : Int)] W fun e w' => e = .returned (.int .i64 (-1)) ∧ w' = W) := hcall
  clear hs hcall
  have mixed := L.mixed
  have t3 := L.t3; have a3 := L.a3; have z3 := L.z3; have v3 := L.v3
  have t4 := L.t4; have a4 := L.a4; have z4 := L.z4; have v4 := L.v4
  have t5 := L.t5; have a5 := L.a5; have z5 := L.z5; have v5 := L.v5
  have t9 := L.t9; have a9 := L.a9; have z9 := L.z9; have v9 := L.v9
  have t21 := L.t21; have a21 := L.a21; have z21 := L.z21; have v21 := L.v21
  have e119 : ∀ args w, (callFunc (ρ.f 119) args).run P w = .ok (.enter (ρ.f 119) args) w := enters_of L.f119 (by kernel_rfl) rfl
  have e137 : ∀ args w, (callFunc (ρ.f 137) args).run P w = .ok (.enter (ρ.f 137) args) w := enters_of L.f137 (by kernel_rfl) rfl
  have hn : ¬ (r < 128) := by omega
  have h65 : (r == 65533) = false := beq_eq_false_iff_ne.2 hr
  have hcv : ∀ w, (convert (ρ.t 21) (ρ.t 9) (.int .i32 r)).run P w = .ok (.string ⟨#[x, y]⟩) w := fun w => by
    rw [run_convert_int_string w _ _ _ _ (by rw [t21]; rfl) t9, he]
  have hsz2 : (⟨#[x, y]⟩ : ByteArray).size = 2 := rfl
  have hsz4 : (⟨#[a, b, c, d]⟩ : ByteArray).size = 4 := rfl
  go_enter L.f152, Body.n152_ntmps ρ
  go_wp2_with (go_at_fn (ρ.f 119); refine (Any.utf8_ValidRune { L with } _ _).mono ?_; rintro e w' ⟨rfl, hw⟩; rw [hw, hv])
  go_step3
  go_wp2
  go_loopg [9, 10, 11, 12] 0 (fun _ s9 _ _ _ wx => s9 = .int .i64 1 ∧ wx = w)
  case atStart => exact ⟨rfl, rfl⟩
  case round =>
    obtain ⟨rfl, rfl⟩ := hrel
    have hi1 : (⟨#[a, b, c, d]⟩ : ByteArray)[1]'(by show 1 < 4; omega) = b := rfl
    have hi2 : (⟨#[x, y]⟩ : ByteArray)[1]'(by show 1 < 2; omega) = y := rfl
    have hne : ((b.toNat : Int) != (y.toNat : Int)) = true := bne_iff_ne.2 fun e => hby (UInt8.toNat_inj.1 (by omega))
    clear hby
    have hw2 : IntKind.i64.wrap 2 = 2 := by decide
    go_wp2
    go_step3
    go_wp2
    go_quiet_o (fail)
    go_wp2
    go_quiet_o (exact (HC.out _).mono fun e w1 h => ⟨h.1, _, h.2⟩)
    go_wp2
    try rw [Exit.noGoto_ret]
    go_wp2
    try rw [Exit.noGoto_ret]
    go_ret
    exact ⟨rfl, drewN_below _ _⟩

set_option maxHeartbeats 4000000 in
set_option maxRecDepth 1000000 in
/-- strings.IndexRune of four bytes below 128, at a rune of 3 bytes. -/
theorem indexRune_three (L : Lays.n152 P ρ) (a b c d x x2 y : UInt8) (r : Int) (w : World) (hv : Lib.validRune r = true) (h128 : 128 ≤ r) (hr : r ≠ 65533) (he : Utf8.encode r = ⟨#[x, x2, y]⟩) (hy : 128 ≤ y.toNat)
    (hs : ∀ z ∈ (⟨#[a, b, c, d]⟩ : ByteArray).data.toList, z.toNat < 128) :
    Calls P (ρ.f 152) #[.string ⟨#[a, b, c, d]⟩, .int .i32 r] w fun e w' => e = .returned (.int .i64 (-1)) ∧ Below w.heap.size w w' := by
  have hby : c ≠ y := fun e => by have := hs c (by simp); rw [e] at this; omega
  have hcall : ∀ W, Calls P (ρ.f 137) #[.string ((⟨#[a, b, c, d]⟩ : ByteArray).extract 3 4), .int .u8 (y.toNat : Int)] W fun e w' => e = .returned (.int .i64 (-1)) ∧ w' = W := fun W =>
    (Any.strings_IndexByte { L with } _ _ W).mono (by
      rintro e w' ⟨rfl, h⟩
      rw [byteNone _ _ (fun z hz => hs z (mem_extract hz)) (by simpa using hy)]
      exact ⟨rfl, h⟩)
  have HC : Aside (∀ W, Calls P (ρ.f 137) #[.string ((⟨#[a, b, c, d]⟩ : ByteArray).extract 3 4), .int .u8 (y.toNat : Int)] W fun e w' => e = .returned (.int .i64 (-1)) ∧ w' = W) := hcall
  clear hs hcall
  have mixed := L.mixed
  have t3 := L.t3; have a3 := L.a3; have z3 := L.z3; have v3 := L.v3
  have t4 := L.t4; have a4 := L.a4; have z4 := L.z4; have v4 := L.v4
  have t5 := L.t5; have a5 := L.a5; have z5 := L.z5; have v5 := L.v5
  have t9 := L.t9; have a9 := L.a9; have z9 := L.z9; have v9 := L.v9
  have t21 := L.t21; have a21 := L.a21; have z21 := L.z21; have v21 := L.v21
  have e119 : ∀ args w, (callFunc (ρ.f 119) args).run P w = .ok (.enter (ρ.f 119) args) w := enters_of L.f119 (by kernel_rfl) rfl
  have e137 : ∀ args w, (callFunc (ρ.f 137) args).run P w = .ok (.enter (ρ.f 137) args) w := enters_of L.f137 (by kernel_rfl) rfl
  have hn : ¬ (r < 128) := by omega
  have h65 : (r == 65533) = false := beq_eq_false_iff_ne.2 hr
  have hcv : ∀ w, (convert (ρ.t 21) (ρ.t 9) (.int .i32 r)).run P w = .ok (.string ⟨#[x, x2, y]⟩) w := fun w => by
    rw [run_convert_int_string w _ _ _ _ (by rw [t21]; rfl) t9, he]
  have hsz2 : (⟨#[x, x2, y]⟩ : ByteArray).size = 3 := rfl
  have hsz4 : (⟨#[a, b, c, d]⟩ : ByteArray).size = 4 := rfl
  go_enter L.f152, Body.n152_ntmps ρ
  go_wp2_with (go_at_fn (ρ.f 119); refine (Any.utf8_ValidRune { L with } _ _).mono ?_; rintro e w' ⟨rfl, hw⟩; rw [hw, hv])
  go_step3
  go_wp2
  go_loopg [9, 10, 11, 12] 0 (fun _ s9 _ _ _ wx => s9 = .int .i64 2 ∧ wx = w)
  case atStart => exact ⟨rfl, rfl⟩
  case round =>
    obtain ⟨rfl, rfl⟩ := hrel
    have hi1 : (⟨#[a, b, c, d]⟩ : ByteArray)[2]'(by show 2 < 4; omega) = c := rfl
    have hi2 : (⟨#[x, x2, y]⟩ : ByteArray)[2]'(by show 2 < 3; omega) = y := rfl
    have hne : ((c.toNat : Int) != (y.toNat : Int)) = true := bne_iff_ne.2 fun e => hby (UInt8.toNat_inj.1 (by omega))
    clear hby
    have hw2 : IntKind.i64.wrap 3 = 3 := by decide
    go_wp2
    go_step3
    go_wp2
    go_quiet_o (fail)
    go_wp2
    go_quiet_o (exact (HC.out _).mono fun e w1 h => ⟨h.1, _, h.2⟩)
    go_wp2
    try rw [Exit.noGoto_ret]
    go_wp2
    try rw [Exit.noGoto_ret]
    go_ret
    exact ⟨rfl, drewN_below _ _⟩

set_option maxHeartbeats 4000000 in
set_option maxRecDepth 1000000 in
/-- strings.IndexRune of four bytes below 128, at a rune of 4 bytes. -/
theorem indexRune_four (L : Lays.n152 P ρ) (a b c d x x2 x3 y : UInt8) (r : Int) (w : World) (hv : Lib.validRune r = true) (h128 : 128 ≤ r) (hr : r ≠ 65533) (he : Utf8.encode r = ⟨#[x, x2, x3, y]⟩) (hy : 128 ≤ y.toNat)
    (hs : ∀ z ∈ (⟨#[a, b, c, d]⟩ : ByteArray).data.toList, z.toNat < 128) :
    Calls P (ρ.f 152) #[.string ⟨#[a, b, c, d]⟩, .int .i32 r] w fun e w' => e = .returned (.int .i64 (-1)) ∧ Below w.heap.size w w' := by
  have hby : d ≠ y := fun e => by have := hs d (by simp); rw [e] at this; omega
  have hcall : ∀ W, Calls P (ρ.f 137) #[.string ((⟨#[a, b, c, d]⟩ : ByteArray).extract 4 4), .int .u8 (y.toNat : Int)] W fun e w' => e = .returned (.int .i64 (-1)) ∧ w' = W := fun W =>
    (Any.strings_IndexByte { L with } _ _ W).mono (by
      rintro e w' ⟨rfl, h⟩
      rw [byteNone _ _ (fun z hz => hs z (mem_extract hz)) (by simpa using hy)]
      exact ⟨rfl, h⟩)
  have HC : Aside (∀ W, Calls P (ρ.f 137) #[.string ((⟨#[a, b, c, d]⟩ : ByteArray).extract 4 4), .int .u8 (y.toNat : Int)] W fun e w' => e = .returned (.int .i64 (-1)) ∧ w' = W) := hcall
  clear hs hcall
  have mixed := L.mixed
  have t3 := L.t3; have a3 := L.a3; have z3 := L.z3; have v3 := L.v3
  have t4 := L.t4; have a4 := L.a4; have z4 := L.z4; have v4 := L.v4
  have t5 := L.t5; have a5 := L.a5; have z5 := L.z5; have v5 := L.v5
  have t9 := L.t9; have a9 := L.a9; have z9 := L.z9; have v9 := L.v9
  have t21 := L.t21; have a21 := L.a21; have z21 := L.z21; have v21 := L.v21
  have e119 : ∀ args w, (callFunc (ρ.f 119) args).run P w = .ok (.enter (ρ.f 119) args) w := enters_of L.f119 (by kernel_rfl) rfl
  have e137 : ∀ args w, (callFunc (ρ.f 137) args).run P w = .ok (.enter (ρ.f 137) args) w := enters_of L.f137 (by kernel_rfl) rfl
  have hn : ¬ (r < 128) := by omega
  have h65 : (r == 65533) = false := beq_eq_false_iff_ne.2 hr
  have hcv : ∀ w, (convert (ρ.t 21) (ρ.t 9) (.int .i32 r)).run P w = .ok (.string ⟨#[x, x2, x3, y]⟩) w := fun w => by
    rw [run_convert_int_string w _ _ _ _ (by rw [t21]; rfl) t9, he]
  have hsz2 : (⟨#[x, x2, x3, y]⟩ : ByteArray).size = 4 := rfl
  have hsz4 : (⟨#[a, b, c, d]⟩ : ByteArray).size = 4 := rfl
  go_enter L.f152, Body.n152_ntmps ρ
  go_wp2_with (go_at_fn (ρ.f 119); refine (Any.utf8_ValidRune { L with } _ _).mono ?_; rintro e w' ⟨rfl, hw⟩; rw [hw, hv])
  go_step3
  go_wp2
  go_loopg [9, 10, 11, 12] 0 (fun _ s9 _ _ _ wx => s9 = .int .i64 3 ∧ wx = w)
  case atStart => exact ⟨rfl, rfl⟩
  case round =>
    obtain ⟨rfl, rfl⟩ := hrel
    have hi1 : (⟨#[a, b, c, d]⟩ : ByteArray)[3]'(by show 3 < 4; omega) = d := rfl
    have hi2 : (⟨#[x, x2, x3, y]⟩ : ByteArray)[3]'(by show 3 < 4; omega) = y := rfl
    have hne : ((d.toNat : Int) != (y.toNat : Int)) = true := bne_iff_ne.2 fun e => hby (UInt8.toNat_inj.1 (by omega))
    clear hby
    have hw2 : IntKind.i64.wrap 4 = 4 := by decide
    go_wp2
    go_step3
    go_wp2
    go_quiet_o (fail)
    go_wp2
    go_quiet_o (exact (HC.out _).mono fun e w1 h => ⟨h.1, _, h.2⟩)
    go_wp2
    try rw [Exit.noGoto_ret]
    go_wp2
    try rw [Exit.noGoto_ret]
    go_ret
    exact ⟨rfl, drewN_below _ _⟩

end Go.Proofs.YtmhmelmoionoiaaGreatDoor

/-
  strings.IndexAny OF ANY BYTES, joined: what a rune's bytes are; the two roads; the engine's contract.
-/

namespace Go.Proofs.YtmhmelmoionoiaaGreatDoor
open Go.Shelf Go.RowKit Go.Lib Go.Proofs
variable {P : Program} {ρ : Ren}

theorem encode_cases (r : Int) (hv : Utf8.valid r = true) (h128 : 128 ≤ r) : (∃ x y, Utf8.encode r = ⟨#[x, y]⟩ ∧ 128 ≤ y.toNat) ∨ (∃ x x2 y, Utf8.encode r = ⟨#[x, x2, y]⟩ ∧ 128 ≤ y.toNat) ∨ ∃ x x2 x3 y, Utf8.encode r = ⟨#[x, x2, x3, y]⟩ ∧ 128 ≤ y.toNat := by
  have hc : ¬ r.toNat < 128 := by omega
  have hy : 128 ≤ (UInt8.ofNat (128 + r.toNat % 64)).toNat := by simp; omega
  unfold Utf8.encode
  simp only [hv, if_true, hc, if_false]
  split
  · exact .inl ⟨_, _, rfl, hy⟩
  · split
    · exact .inr (.inl ⟨_, _, _, rfl, hy⟩)
    · exact .inr (.inr ⟨_, _, _, _, rfl, hy⟩)

theorem decode_all (s : ByteArray) (pos : Nat) (h : pos < s.size) (ha : 128 ≤ (s[pos]'h).toNat) :
    Utf8.valid ((Utf8.decode s pos).1 : Int) = true ∧ pos + (Utf8.decode s pos).2 ≤ s.size ∧ ∀ k, k < (Utf8.decode s pos).2 → 128 ≤ (s.get! (pos + k)).toNat := by
  have hn : ¬ (s[pos]'h).toNat < 128 := by omega
  have h0 : 128 ≤ (s.get! (pos + 0)).toNat := by rw [get_at s pos h]; exact ha
  have one : ∀ k, k < 1 → 128 ≤ (s.get! (pos + k)).toNat := fun k hk => by
    obtain rfl : k = 0 := by omega
    exact h0
  have herr : Utf8.valid ((Utf8.runeError : Nat) : Int) = true := by decide
  simp only [Utf8.decode, get_at s pos h, hn, if_false]
  split
  · rename_i h1
    simp only [Bool.and_eq_true, beq_iff_eq, decide_eq_true_eq] at h1
    split
    · refine ⟨?_, by show pos + 2 ≤ _; omega, fun k hk => ?_⟩
      · unfold Utf8.valid
        have := (s.get! (pos + 1)).toNat_lt
        rw [Bool.or_eq_true]; left
        rw [Bool.and_eq_true]
        exact ⟨decide_eq_true (by omega), decide_eq_true (by show (((s[pos]'h).toNat % 32 * 64 + (s.get! (pos + 1)).toNat % 64 : Nat) : Int) < 55296; omega)⟩
      · have hk : k < 2 := hk
        rcases (by omega : k = 0 ∨ k = 1) with rfl | rfl
        · exact h0
        · omega
    · exact ⟨herr, by show pos + 1 ≤ _; omega, one⟩
  · split
    · rename_i h1
      simp only [Bool.and_eq_true, beq_iff_eq, decide_eq_true_eq] at h1
      split
      · rename_i h2
        simp only [Bool.and_eq_true, decide_eq_true_eq] at h2
        refine ⟨h2.2, by show pos + 3 ≤ _; omega, fun k hk => ?_⟩
        have hk : k < 3 := hk
        rcases (by omega : k = 0 ∨ k = 1 ∨ k = 2) with rfl | rfl | rfl
        · exact h0
        · omega
        · omega
      · exact ⟨herr, by show pos + 1 ≤ _; omega, one⟩
    · split
      · rename_i h1
        simp only [Bool.and_eq_true, beq_iff_eq, decide_eq_true_eq] at h1
        split
        · rename_i h2
          simp only [Bool.and_eq_true, decide_eq_true_eq] at h2
          refine ⟨h2.2, by show pos + 4 ≤ _; omega, fun k hk => ?_⟩
          have hk : k < 4 := hk
          rcases (by omega : k = 0 ∨ k = 1 ∨ k = 2 ∨ k = 3) with rfl | rfl | rfl | rfl
          · exact h0
          · omega
          · omega
          · omega
        · exact ⟨herr, by show pos + 1 ≤ _; omega, one⟩
      · exact ⟨herr, by show pos + 1 ≤ _; omega, one⟩

/-- strings.IndexRune of four bytes below 128, at a rune of more. -/
theorem indexRune_high (L : Lays.n152 P ρ) (a b c d : UInt8) (r : Int) (w : World) (hv : Utf8.valid r = true) (h128 : 128 ≤ r) (hs : ∀ z ∈ (⟨#[a, b, c, d]⟩ : ByteArray).data.toList, z.toNat < 128) :
    Calls P (ρ.f 152) #[.string ⟨#[a, b, c, d]⟩, .int .i32 r] w fun e w' => e = .returned (.int .i64 (-1)) ∧ Below w.heap.size w w' := by
  by_cases hr : r = 65533
  · subst hr
    refine (indexRune_err L ⟨#[a, b, c, d]⟩ w fun j x hx => hs x (List.mem_of_getElem? hx)).mono fun e w' ⟨h1, pos, h2⟩ => ⟨h1, ?_⟩
    rw [h2]
    exact (Below.refl _ _).alloc (Nat.le_refl _) _
  · have hv' : Lib.validRune r = true := by
      have := validRune_eq r
      rw [hv] at this
      exact this.symm
    rcases encode_cases r hv h128 with ⟨x, y, he, hy⟩ | ⟨x, x2, y, he, hy⟩ | ⟨x, x2, x3, y, he, hy⟩
    · exact indexRune_two L a b c d x y r w hv' h128 hr he hy hs
    · exact indexRune_three L a b c d x x2 y r w hv' h128 hr he hy hs
    · exact indexRune_four L a b c d x x2 x3 y r w hv' h128 hr he hy hs

theorem noAny_high {s : ByteArray} {chars : List UInt8} {i n : Nat} (h : NoAny s.data.toList chars i) (hc : ∀ z ∈ chars, z.toNat < 128) (hn : i + n ≤ s.size) (hh : ∀ k, k < n → 128 ≤ (s.get! (i + k)).toNat) : NoAny s.data.toList chars (i + n) := by
  intro j b hj hb
  by_cases hji : j < i
  · exact h j b hji hb
  · have hjs : j < s.size := by omega
    have hx := Lib.data_getElem? s j hjs
    rw [hb] at hx
    have e := get_at s j hjs
    have h1 := hh (j - i) (by omega)
    rw [show i + (j - i) = j + 0 by omega, e, ← Option.some.inj hx] at h1
    cases hcon : chars.contains b with
    | false => rfl
    | true =>
      have := hc b (List.contains_iff_mem.1 hcon)
      omega

set_option maxHeartbeats 8000000 in
set_option maxRecDepth 1000000 in
/-- strings.IndexAny of at most 8 bytes, of any kind. -/
theorem indexAny_short (L : Lays.n153 P ρ) (s : ByteArray) (a b c d : UInt8) (w : World) (h8 : s.size ≤ 8) (hcs : ∀ z ∈ (⟨#[a, b, c, d]⟩ : ByteArray).data.toList, z.toNat < 128) :
    Calls P (ρ.f 153) #[.string s, .string ⟨#[a, b, c, d]⟩] w fun e w' => e = .returned (.int .i64 (Lib.indexAny s.data.toList (⟨#[a, b, c, d]⟩ : ByteArray).data.toList)) ∧ Below w.heap.size w w' := by
  have hrune : ∀ (r : Int) (W : World), Utf8.valid r = true → 128 ≤ r → Calls P (ρ.f 152) #[.string ⟨#[a, b, c, d]⟩, .int .i32 r] W fun e w' => e = .returned (.int .i64 (-1)) ∧ Below W.heap.size W w' :=
    fun r W hv h => indexRune_high { L with } a b c d r W hv h hcs
  have HR : Aside (∀ (r : Int) (W : World), Utf8.valid r = true → 128 ≤ r → Calls P (ρ.f 152) #[.string ⟨#[a, b, c, d]⟩, .int .i32 r] W fun e w' => e = .returned (.int .i64 (-1)) ∧ Below W.heap.size W w') := hrune
  have HCS : Aside (∀ z ∈ (⟨#[a, b, c, d]⟩ : ByteArray).data.toList, z.toNat < 128) := hcs
  clear hrune hcs
  have hsz4 : (⟨#[a, b, c, d]⟩ : ByteArray).size = 4 := rfl
  have hemp : (⟨#[a, b, c, d]⟩ : ByteArray).toList.isEmpty = false := by
    rw [Lib.toList_data]; rfl
  have hn1 : (((⟨#[a, b, c, d]⟩ : ByteArray).size : Int) == 1) = false := rfl
  have h8z : decide ((8 : Int) < (s.size : Int)) = false := decide_eq_false (by omega)
  generalize (⟨#[a, b, c, d]⟩ : ByteArray) = chars at *
  have t3 := L.t3; have a3 := L.a3; have z3 := L.z3; have v3 := L.v3
  have t4 := L.t4; have a4 := L.a4; have z4 := L.z4; have v4 := L.v4
  have t5 := L.t5; have a5 := L.a5; have z5 := L.z5; have v5 := L.v5
  have t9 := L.t9; have a9 := L.a9; have z9 := L.z9; have v9 := L.v9
  have t21 := L.t21; have a21 := L.a21; have z21 := L.z21; have v21 := L.v21
  have e152 : ∀ args w, (callFunc (ρ.f 152) args).run P w = .ok (.enter (ρ.f 152) args) w := enters_of L.f152 (by kernel_rfl) rfl
  have e226 : ∀ args w, (callFunc (ρ.f 226) args).run P w = .ok (.enter (ρ.f 226) args) w := enters_of L.f226 (by kernel_rfl) rfl
  go_enter L.f153, Body.n153_ntmps ρ
  go_wp2_with (go_at_fn (ρ.f 226); refine (Any.strings_shouldUseASCIISet { L with } _ _).mono ?_; rintro e w' ⟨rfl, hw⟩; rw [hw, h8z])
  go_loopg [9, 10] s.size (fun g _ _ wx => ∃ i : Nat, i ≤ s.size ∧ s.size ≤ i + g ∧ wx.heap[w.heap.size]? = some (.stringIter s i) ∧ Below w.heap.size w wx ∧ Lib.NoAny s.data.toList chars.data.toList i)
  case atStart => exact ⟨0, by omega, by omega, World.iter_heap _ _ _, (Below.refl _ _).alloc (Nat.le_refl _) _, Lib.NoAny.zero _ _⟩
  case round =>
    obtain ⟨i, hi1, hi2, hk, hbel, hno⟩ := hrel
    have HN : Aside (Lib.NoAny s.data.toList chars.data.toList i) := hno
    have HB : Aside (Below w.heap.size w wr) := hbel
    have HK : Aside (wr.heap[w.heap.size]? = some (.stringIter s i)) := hk
    clear hno hbel
    by_cases hlt : i < s.size
    · by_cases hx128 : (s[i]'hlt).toNat < 128
      · obtain ⟨x, hx⟩ : ∃ x : UInt8, s[i]'hlt = x := ⟨_, rfl⟩
        have hxl : s.data.toList[i]? = some x := by rw [← hx]; exact Lib.data_getElem? s i hlt
        have hnx := fun ty => run_next_ascii_at (P := P) wr w.heap.size s i ty hk hlt hx128
        rw [hx] at hnx hx128
        have Hx : Aside (s.data.toList[i]? = some x) := hxl
        clear hxl hx hk
        have hcon := Lib.contains_iff_indexByte chars.data.toList x
        have hback : ((x.toNat : Int)).toNat.toUInt8 = x := by simp
        obtain ⟨g, rfl⟩ : ∃ g, gk = g + 1 := ⟨gk - 1, by omega⟩
        cases hin : chars.data.toList.contains x
        · rw [hin] at hcon
          have hlt : ¬ ((0 : Int) ≤ Lib.indexByte chars.data.toList x) := of_decide_eq_false hcon.symm
          clear hcon
          go_wp2_with (go_at_fn (ρ.f 152); refine (Any.strings_IndexRune_ascii { L with } _ _ _ (by omega) (by omega)).mono ?_; rintro e w' ⟨rfl, hw⟩; rw [hw, hback])
          go_roundg g
          case measure => omega
          case rel => exact ⟨i + 1, by omega, by omega, iterAt_heap _ _ _ _ _ HK.out, below_iterAt HB.out (Nat.le_refl _) _ _, HN.out.succ Hx.out hin⟩
        · rw [hin] at hcon
          have hge : (0 : Int) ≤ Lib.indexByte chars.data.toList x := of_decide_eq_true hcon.symm
          clear hcon
          go_wp2_with (go_at_fn (ρ.f 152); refine (Any.strings_IndexRune_ascii { L with } _ _ _ (by omega) (by omega)).mono ?_; rintro e w' ⟨rfl, hw⟩; rw [hw, hback])
          go_ret
          exact ⟨by rw [Lib.indexAny_hit HN.out Hx.out hin]; rfl, below_iterAt HB.out (Nat.le_refl _) _ _⟩
      · obtain ⟨d1, d2, d3⟩ := decode_all s i hlt (by omega)
        obtain ⟨d4, d5⟩ := decode_high s i hlt (by omega)
        have hnx := fun ty => run_next_any_at (P := P) wr w.heap.size s i ty hk hlt
        have HN2 : Aside (Lib.NoAny s.data.toList chars.data.toList (i + (Utf8.decode s i).2)) := noAny_high HN.out HCS.out d2 d3
        have hk2 : (wr.iterAt w.heap.size s (i + (Utf8.decode s i).2)).heap[w.heap.size]? = some (.stringIter s (i + (Utf8.decode s i).2)) := iterAt_heap _ _ _ _ _ hk
        have hb2 := below_iterAt HB.out (Nat.le_refl _) s (i + (Utf8.decode s i).2)
        have hcall := HR.out ((Utf8.decode s i).1 : Int) (wr.iterAt w.heap.size s (i + (Utf8.decode s i).2)) d1 (by omega)
        have hsz : w.heap.size < (wr.iterAt w.heap.size s (i + (Utf8.decode s i).2)).heap.size := (Array.getElem?_eq_some_iff.1 hk2).1
        generalize hn : (Utf8.decode s i).2 = n at *
        generalize hr : (Utf8.decode s i).1 = r at *
        obtain ⟨g, rfl⟩ : ∃ g, gk = g + 1 := ⟨gk - 1, by omega⟩
        have HC : Aside (Calls P (ρ.f 152) #[Value.string chars, Value.int IntKind.i32 (r : Int)] (wr.iterAt w.heap.size s (i + n)) fun e w' => e = Ending.returned (Value.int IntKind.i64 (-1)) ∧ w'.heap[w.heap.size]? = some (.stringIter s (i + n)) ∧ Below w.heap.size w w') := by
          refine hcall.mono fun e w' ⟨h1, h2⟩ => ⟨h1, ?_, hb2.trans (h2.mono (by omega))⟩
          rw [h2.block _ hsz]; exact hk2
        clear hcall hb2 hk2 hk d1 d3 hsz hn hr hx128
        go_wp2_with (go_at_fn (ρ.f 152); refine HC.out.mono ?_; rintro e w' ⟨rfl, hw⟩)
        go_roundg g
        case measure => omega
        case rel => exact ⟨i + n, by omega, by omega, hw.1, hw.2, HN2.out⟩
    · obtain rfl : i = s.size := by omega
      have hnx := fun ty => run_next_end_at (P := P) wr w.heap.size s s.size ty hk hlt
      clear hk
      go_wp2
      go_ret
      exact ⟨by rw [Lib.indexAny_none (by rw [← Lib.size_eq]; exact HN.out)]; rfl, HB.out⟩

end Go.Proofs.YtmhmelmoionoiaaGreatDoor

/-
  THE LIBRARY's strings.Cut AT A SEPARATOR OF ONE BYTE, TrimSuffix, CutPrefix: what the code computes.
-/
import Derived.Test.YtlfohmdclcdejaaDoorLib
import Derived.Shelf.Strings.Search1
import Derived.Lib.Bytealg
import Derived.Lib.IndexMore
import Derived.Lib.IndexBytes
import Derived.Lib.Strings
namespace Go.Proofs.YtlfohmdclcdejaaDoor
open Go.Eng

set_option maxRecDepth 100000

theorem ibs_sound (s : Str) (c : Int) : Snd 80 [.str s, .int .u8 c] (dI (Lib.indexByte s c.toNat.toUInt8)) := by
  intro w av vs hg _ hs hr
  obtain ⟨v0, v1, rfl⟩ : ∃ v0 v1, vs = #[v0, v1] := by
    obtain ⟨l⟩ := vs
    match l, hs with
    | [a, b], _ => exact ⟨a, b, rfl⟩
  have h0 := hr 0 _ _ rfl rfl
  have h1 := hr 1 _ _ rfl rfl
  cases h1
  cases h0 with
  | str b l h hl =>
  subst h
  refine .inr ⟨.int .i64 (Lib.indexByte b.data.toList c.toNat.toUInt8), w, ?_, ?_, RowKit.Below.refl _ _, trivial⟩
  · show (callFunc 80 _).run Tryd.prog w = _
    rw [run_callFunc_extern Tryd.func80 (by kernel_rfl) (by kernel_rfl) (by kernel_rfl) (e := Extern.BytealgIndexByte.indexByte) (by kernel_rfl), Lib.run_indexByteString]; rfl
  · refine .int _ _ ?_
    have h1 := Lib.index_ge b.data.toList [c.toNat.toUInt8]
    have h2 := Lib.index_le b.data.toList [c.toNat.toUInt8]
    rw [Lib.index_one] at h1 h2
    simp only [inR, Bool.and_eq_true]
    have hb : big = 140737488355328 := rfl
    refine ⟨decide_eq_true ?_, decide_eq_true ?_⟩
    · show (-9223372036854775808 : Int) ≤ _; omega
    · show _ ≤ (9223372036854775807 : Int); omega

def pIx : List (D Pl) → Option (Bool × D Pl)
  | [.str s, .int .u8 c] => some (true, dI (Lib.indexByte s c.toNat.toUInt8))
  | _ => none
theorem pIx_ok : ∀ ds b d, pIx ds = some (b, d) → b = true → Snd 80 ds d := by
  intro ds b d h hb
  unfold pIx at h
  split at h
  · simp only [Option.some.injEq, Prod.mk.injEq] at h; obtain ⟨_, rfl⟩ := h; exact ibs_sound _ _
  · simp at h
def tIx (R : Eng.Told Pl) : Eng.Told Pl := tell 80 pIx R
theorem tIx_ok {R : Eng.Told Pl} (h : TOk R) : TOk (tIx R) := tell_ok pIx_ok h

def one (u : UInt8) : Int := (([u] : Str).length : Int)
def ixc (s : Str) (u : UInt8) : Int := Lib.indexByte s (((([u] : Str).getD (Int.toNat 0) 0).toNat : Int)).toNat.toUInt8
def sl (s : Str) (a b : Int) : Str := List.take (b.toNat - a.toNat) (List.drop a.toNat s)
def slOk (a b n : Int) : Bool := decide (0 ≤ a) && decide (a ≤ b) && decide (b ≤ n)
def hdOk (b n : Int) : Bool := true && decide (0 ≤ b) && decide (b ≤ n)
abbrev w6 (z : Int) : Int := IntKind.i64.wrap z

theorem eCut (s : Str) (u : UInt8) : ev (tIx tell0) noTL 5 35 [.str s, .str [u]] = bif [u] == s then
    ck_ (slOk (w6 (0 + one u)) s.length s.length || false) (some (.tup [.str [], .str (sl s (w6 (0 + one u)) s.length), .bool true]))
    else bif decide (ixc s u ≥ 0) then ck_ (hdOk (ixc s u) s.length || false) (ck_ (slOk (w6 (ixc s u + one u)) s.length s.length || false) (some (.tup [.str (sl s 0 (ixc s u)), .str (sl s (w6 (ixc s u + one u)) s.length), .bool true])))
    else some (.tup [.str s, .str [], .bool false]) := by kernel_rfl

theorem eTrim (s : Str) (u : UInt8) : ev tell0 noTL 3 37 [.str s, .str [u]] = ck_ (slOk (w6 ((s.length : Int) - one u)) s.length s.length || !(decide ((s.length : Int) ≥ one u) == true))
    (bif (bif decide ((s.length : Int) ≥ one u) then sl s (w6 ((s.length : Int) - one u)) s.length == [u] else false) then ck_ (hdOk (w6 ((s.length : Int) - one u)) s.length || false) (some (.str (sl s 0 (w6 ((s.length : Int) - one u))))) else some (.str s)) := by kernel_rfl

theorem ePre (s : Str) (u : UInt8) : ev tell0 noTL 3 48 [.str s, .str [u]] = ck_ (hdOk (one u) s.length || !(decide ((s.length : Int) ≥ one u) == true))
    (bif !(bif decide ((s.length : Int) ≥ one u) then sl s 0 (one u) == [u] else false) then some (.tup [.str s, .bool false]) else ck_ (slOk (one u) s.length s.length || false) (some (.tup [.str (sl s (one u) s.length), .bool true]))) := by kernel_rfl

theorem one_eq (u : UInt8) : one u = 1 := rfl
theorem ixc_eq (s : Str) (u : UInt8) : ixc s u = Lib.index s [u] := by
  rw [Lib.index_one]
  unfold ixc
  congr 1
  show (u.toNat).toUInt8 = u
  simp
theorem sl_drop {s : Str} {a : Nat} : sl s (a : Int) s.length = s.drop a := by
  unfold sl
  rw [Int.toNat_natCast, Int.toNat_natCast]
  exact List.take_of_length_le (by simp)
theorem sl_take {s : Str} {b : Nat} : sl s 0 (b : Int) = s.take b := by
  unfold sl
  rw [Int.toNat_natCast]; rfl
theorem slOk_t {a b n : Nat} (h : a ≤ b) (h2 : b ≤ n) : slOk (a : Int) (b : Int) (n : Int) = true := by
  unfold slOk
  rw [decide_eq_true (show (0 : Int) ≤ a by omega), decide_eq_true (show (a : Int) ≤ b by omega), decide_eq_true (show (b : Int) ≤ n by omega)]; rfl
theorem hdOk_t {b n : Nat} (h2 : b ≤ n) : hdOk (b : Int) (n : Int) = true := by
  unfold hdOk
  rw [decide_eq_true (show (0 : Int) ≤ b by omega), decide_eq_true (show (b : Int) ≤ n by omega)]; rfl

def cutD (s : Str) (u : UInt8) : D Pl := .tup [.str (Lib.cut s [u]).1, .str (Lib.cut s [u]).2.1, .bool (Lib.cut s [u]).2.2]

theorem cut_sound (s : Str) (u : UInt8) : Snd 35 [.str s, .str [u]] (cutD s u) := by
  refine SoundAt.rooms fun hroom => snd_of (tIx_ok (tell0_ok _)) (noTL_ok _ _) ((eCut s u).trans ?_)
  have hl : s.length ≤ big := hroom (.str s) (by simp)
  have hb : big = 140737488355328 := rfl
  unfold cutD Lib.cut
  rw [ixc_eq, one_eq]
  cases h : ([u] == s) with
  | true =>
    have hs : [u] = s := by simpa using h
    subst hs
    rw [show Lib.index [u] [u] = 0 from Lib.index_self _]
    rfl
  | false =>
    rw [cond_false]
    have hge := Lib.index_ge s [u]
    by_cases h0 : 0 ≤ Lib.index s [u]
    · have hroom := Lib.index_room s [u] h0
      obtain ⟨i, hi⟩ : ∃ i : Nat, Lib.index s [u] = i := ⟨(Lib.index s [u]).toNat, by omega⟩
      rw [hi] at hroom ⊢
      simp only [List.length_singleton] at hroom
      rw [show w6 ((i : Int) + 1) = ((i + 1 : Nat) : Int) from wrap_nat (by omega), decide_eq_true (show (i : Int) ≥ 0 by omega), cond_true, ck_t (by rw [hdOk_t (by omega)]; rfl), ck_t (by rw [slOk_t (by omega) (Nat.le_refl _)]; rfl), sl_drop, sl_take, if_pos (by omega), Int.toNat_natCast]
      rfl
    · rw [decide_eq_false (show ¬ Lib.index s [u] ≥ 0 by omega), cond_false, if_neg h0]

theorem suffix_one (s : Str) (u : UInt8) : Lib.hasSuffix s [u] = (bif decide (s.length ≥ 1) then s.drop (s.length - 1) == [u] else false) := by
  unfold Lib.hasSuffix
  rcases List.eq_nil_or_concat s with rfl | ⟨r, c, rfl⟩
  · rfl
  · rw [List.concat_eq_append, decide_eq_true (show (r ++ [c]).length ≥ 1 by rw [List.length_append, List.length_singleton]; omega), cond_true]
    have h1 : (r ++ [c]).drop ((r ++ [c]).length - 1) = [c] := by simp
    have h2 : List.isSuffixOf [u] (r ++ [c]) = (u == c) := by simp [List.isSuffixOf, List.isPrefixOf]
    rw [h1, h2]
    by_cases h : u = c
    · subst h; simp
    · rw [beq_eq_false_iff_ne.2 h, beq_eq_false_iff_ne.2 fun e => h (by injection e with e1 _; exact e1.symm)]

theorem trim_sound (s : Str) (u : UInt8) : Snd 37 [.str s, .str [u]] (.str (Lib.trimSuffix s [u])) := by
  refine SoundAt.rooms fun hroom => snd_of (tell0_ok _) (noTL_ok _ _) ((eTrim s u).trans ?_)
  have hl : s.length ≤ big := hroom (.str s) (by simp)
  have hb : big = 140737488355328 := rfl
  unfold Lib.trimSuffix
  rw [suffix_one, one_eq]
  by_cases h1 : s.length ≥ 1
  · have hw : w6 ((s.length : Int) - 1) = ((s.length - 1 : Nat) : Int) := by
      show IntKind.i64.wrap _ = _
      rw [wrap_in _ (by omega)]; omega
    rw [hw, decide_eq_true (show (s.length : Int) ≥ 1 by omega), decide_eq_true h1, cond_true, cond_true, sl_drop, sl_take, ck_t (by rw [slOk_t (by omega) (Nat.le_refl _)]; rfl), ck_t (by rw [hdOk_t (by omega)]; rfl)]
    cases s.drop (s.length - 1) == [u] <;> rfl
  · obtain rfl : s = [] := List.length_eq_zero_iff.1 (by omega)
    rfl

theorem prefix_one (s : Str) (u : UInt8) : Lib.hasPrefix s [u] = (bif decide (s.length ≥ 1) then s.take 1 == [u] else false) := by
  unfold Lib.hasPrefix
  cases s with
  | nil => rfl
  | cons c r =>
    rw [decide_eq_true (show (c :: r).length ≥ 1 by rw [List.length_cons]; omega), cond_true]
    have h2 : List.isPrefixOf [u] (c :: r) = (u == c) := by
      show (u == c && List.isPrefixOf [] r) = (u == c)
      rw [show List.isPrefixOf [] r = true by cases r <;> rfl, Bool.and_true]
    rw [h2, show (c :: r).take 1 = [c] from rfl]
    by_cases h : u = c
    · subst h; simp
    · rw [beq_eq_false_iff_ne.2 h, beq_eq_false_iff_ne.2 fun e => h (by injection e with e1 _; exact e1.symm)]

theorem pre_sound (s : Str) (u : UInt8) : Snd 48 [.str s, .str [u]] (.tup [.str (Lib.trimPrefix s [u]), .bool (Lib.hasPrefix s [u])]) := by
  refine snd_of (tell0_ok _) (noTL_ok _ _) ((ePre s u).trans ?_)
  unfold Lib.trimPrefix
  rw [prefix_one, one_eq]
  by_cases h1 : s.length ≥ 1
  · rw [decide_eq_true (show (s.length : Int) ≥ 1 by omega), decide_eq_true h1, cond_true, cond_true, show sl s 0 1 = s.take 1 from sl_take (b := 1), show sl s 1 s.length = s.drop 1 from sl_drop (a := 1),
      ck_t (by rw [show hdOk 1 (s.length : Int) = true from hdOk_t (b := 1) h1]; rfl), ck_t (by rw [show slOk 1 (s.length : Int) (s.length : Int) = true from slOk_t (a := 1) h1 (Nat.le_refl _)]; rfl)]
    cases s.take 1 == [u] <;> rfl
  · obtain rfl : s = [] := List.length_eq_zero_iff.1 (by omega)
    rfl


end Go.Proofs.YtlfohmdclcdejaaDoor

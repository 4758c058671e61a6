/-
  TEXTS OF ADDRESSES: what the code computes.
-/
import Derived.Test.YtlfohmdclcdejaaDoorAddrLaw
import Derived.Test.YtlfohmdclcdejaaDoorCuts
import Derived.Test.YtlfohmdclcdejaaDoorFmt
namespace Go.Proofs.YtlfohmdclcdejaaDoor
open Go.Eng
open Nu (parseV refParseV back isD dec_ok byt_get parse_eq dgs)

set_option maxRecDepth 100000

theorem fmtu_sound (n : Int) : Snd 41 [.int .u64 n, dI 10] (.str (dgs n)) := by
  refine Nu.snd_calls Tryd.func41 (by kernel_rfl) (by kernel_rfl) rfl fun w av vs hg hs hr => ?_
  obtain ⟨v0, v1, rfl⟩ : ∃ v0 v1, vs = #[v0, v1] := by
    obtain ⟨l⟩ := vs
    match l, hs with
    | [a, b], _ => exact ⟨a, b, rfl⟩
  have h0 := hr 0 _ _ rfl rfl
  have h1 := hr 1 _ _ rfl rfl
  cases h0 with
  | int _ _ hin =>
  cases h1 with
  | int _ _ _ =>
  simp only [inR, Bool.and_eq_true] at hin
  have h2 : (0 : Int) ≤ n := of_decide_eq_true hin.1
  have h3 : n ≤ 18446744073709551615 := of_decide_eq_true hin.2
  obtain ⟨u, rfl⟩ : ∃ u : Nat, n = u := ⟨n.toNat, by omega⟩
  unfold dgs
  rw [Int.toNat_natCast]
  refine (Tryd.fmtUint u (by omega) w (Nu.tab_is hg)).mono fun e w' ⟨he, k, os, hw⟩ => ⟨_, he, ?_, ?_⟩
  · refine .str _ _ (by simp) ?_
    have := Lib.nDigits_le20 u (by omega)
    rw [Lib.decDigits_length]
    have hb : big = 140737488355328 := rfl
    omega
  · subst hw; exact Lib.below_grow _ w (Nat.le_refl _) k os

def pFu : List (D Pl) → Option (Bool × D Pl)
  | [.int .u64 n, .int .i64 (.ofNat 10)] => some (true, .str (dgs n))
  | _ => none
theorem pFu_ok : ∀ ds b d, pFu ds = some (b, d) → b = true → Snd 41 ds d := by
  intro ds b d h hb
  unfold pFu at h
  split at h
  · simp only [Option.some.injEq, Prod.mk.injEq] at h; obtain ⟨rfl, rfl⟩ := h; exact fmtu_sound _
  · simp at h

def pIn (f : Int → D Pl) : List (D Pl) → Option (Bool × D Pl)
  | [.int .i64 c] => some (true, f c)
  | _ => none
theorem pIn_ok {g : FuncId} {f : Int → D Pl} (hf : ∀ c, Snd g [dI c] (f c)) : ∀ ds b d, pIn f ds = some (b, d) → b = true → Snd g ds d := by
  intro ds b d h hb
  unfold pIn at h
  split at h
  · simp only [Option.some.injEq, Prod.mk.injEq] at h; obtain ⟨_, rfl⟩ := h; exact hf _
  · simp at h

def tPr (R : Eng.Told Pl) : Eng.Told Pl := tell 39 (pIn fun n => .str (Lib.itoa n)) (tell 40 (pIn fun n => .str (Lib.itoa n)) R)
theorem tPr_ok {R : Eng.Told Pl} (h : TOk R) : TOk (tPr R) := tell_ok (pIn_ok Nu.print_sound) (tell_ok (pIn_ok Nu.refPrint_sound) h)

-- strings, one byte: told
def pC1 (f : Str → UInt8 → D Pl) : List (D Pl) → Option (Bool × D Pl)
  | [.str s, .str [u]] => some (true, f s u)
  | _ => none
theorem pC1_ok {g : FuncId} {f : Str → UInt8 → D Pl} (hf : ∀ s u, Snd g [.str s, .str [u]] (f s u)) : ∀ ds b d, pC1 f ds = some (b, d) → b = true → Snd g ds d := by
  intro ds b d h hb
  unfold pC1 at h
  split at h
  · simp only [Option.some.injEq, Prod.mk.injEq] at h; obtain ⟨_, rfl⟩ := h; exact hf _ _
  · simp at h
def tCu (R : Eng.Told Pl) : Eng.Told Pl := tell 35 (pC1 cutD) (tell 37 (pC1 fun s u => .str (Lib.trimSuffix s [u])) (tell 48 (pC1 fun s u => .tup [.str (Lib.trimPrefix s [u]), .bool (Lib.hasPrefix s [u])])
  (tell 49 (pS fun s => Nu.prT (parseV s)) (tell 38 (pS fun s => Nu.prT (refParseV s)) R))))
theorem tCu_ok {R : Eng.Told Pl} (h : TOk R) : TOk (tCu R) := tell_ok (pC1_ok cut_sound) (tell_ok (pC1_ok trim_sound) (tell_ok (pC1_ok pre_sound) (tell_ok (pS_ok Nu.parse_sound) (tell_ok (pS_ok Nu.refParse_sound) h))))

end Go.Proofs.YtlfohmdclcdejaaDoor

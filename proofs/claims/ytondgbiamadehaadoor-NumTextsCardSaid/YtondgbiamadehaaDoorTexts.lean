/-
  THE LAW OF TEXTS: true of any number and any text.
-/
import Derived.Test.YtondgbiamadehaaDoorTextsLaw
namespace Go.Proofs.YtondgbiamadehaaDoor
open Go.Eng

set_option maxRecDepth 100000

def pIn (f : Int → D Pl) : List (D Pl) → Option (Bool × D Pl)
  | [.int .i64 c] => some (true, f c)
  | _ => none
theorem pIn_ok {g : FuncId} {f : Int → D Pl} (hf : ∀ c, Snd g [dI c] (f c)) : ∀ ds b d, pIn f ds = some (b, d) → b = true → Snd g ds d := by
  intro ds b d h hb
  unfold pIn at h
  split at h
  · simp only [Option.some.injEq, Prod.mk.injEq] at h; obtain ⟨_, rfl⟩ := h; exact hf _
  · simp at h

def tT (R : Eng.Told Pl) : Eng.Told Pl := tell 16 (pIn fun n => .str (Lib.itoa n)) (tell 19 (pIn fun n => .str (Lib.itoa n)) (tell 17 (pS fun s => prT (parseV s)) (tell 18 (pS fun s => prT (refParseV s)) R)))
theorem tT_ok {R : Eng.Told Pl} (h : TOk R) : TOk (tT R) := tell_ok (pIn_ok print_sound) (tell_ok (pIn_ok refPrint_sound) (tell_ok (pS_ok parse_sound) (tell_ok (pS_ok refParse_sound) h)))

def saidB (n : Int) (s : Str) : Bool := bif (bif (bif (bif Lib.itoa n == Lib.itoa n then (parseV s).1 == (refParseV s).1 else false) then (parseV s).2 == (refParseV s).2 else false) then (parseV (Lib.itoa n)).1 == n else false) then (parseV (Lib.itoa n)).2 == 0 else false

theorem e5 (n : Int) (s : Str) : ev (tAwake (tT tell0)) noTL 1 5 [dI n, .str s] = bif decide ((s.length : Int) > 2000) then some (.bool true) else bif saidB n s == true then some (.bool true) else some (.bool false) := by kernel_rfl

theorem texts_sound (n : Int) (s : Str) : Snd 5 [dI n, .str s] (.bool true) := by
  refine SoundAt.rooms fun hroom => snd_of (tAwake_ok (tT_ok (tell0_ok _))) (noTL_ok _ _) ((e5 n s).trans ?_)
  have hin : inR .i64 n = true := hroom (dI n) (by simp)
  simp only [inR, Bool.and_eq_true] at hin
  have hs : saidB n s = true := by
    unfold saidB
    rw [back (of_decide_eq_true hin.1) (of_decide_eq_true hin.2), parse_eq]
    simp only [beq_self_eq_true, cond_true]
  rw [hs]
  cases decide ((s.length : Int) > 2000) <;> rfl

end Go.Proofs.YtondgbiamadehaaDoor

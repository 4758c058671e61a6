/-
  THE LAW ON PLACES.
-/
import Derived.Test.YtcopmdhjambfjaaDoorPlaces
import Derived.Test.YtcopmdhjambfjaaDoorLook
namespace Go.Proofs.YtcopmdhjambfjaaDoor
open Go.Eng

set_option maxRecDepth 100000

def pPos (f : Str → Int → List (D Pl)) : List (D Pl) → Option (Bool × D Pl)
  | [.str s, .int .i64 a] => some (true, .agg (f s a))
  | _ => none
theorem pPos_ok {g : FuncId} {f : Str → Int → List (D Pl)} (hf : ∀ s a, Snd g [.str s, dI a] (.agg (f s a))) : ∀ ds b d, pPos f ds = some (b, d) → b = true → Snd g ds d := by
  intro ds b d h hb
  unfold pPos at h
  split at h
  · simp only [Option.some.injEq, Prod.mk.injEq] at h; obtain ⟨_, rfl⟩ := h; exact hf _ _
  · simp at h

def pTok2 (c : TokR → Bool) (f : TokR → TokR → Bool) : List (D Pl) → Option (Bool × D Pl)
  | [.agg [.int .i64 k, .str s, .int .i64 n, .pl ⟨.parts, x⟩ .any, .int .i64 a, .int .i64 b, .int .i64 c0], .agg [.int .i64 k', .str s', .int .i64 n', .pl ⟨.parts, y⟩ .any, .int .i64 a', .int .i64 b', .int .i64 c']] =>
    some (c ⟨k, s, n, x, ⟨a, b, c0⟩⟩, .bool (f ⟨k, s, n, x, ⟨a, b, c0⟩⟩ ⟨k', s', n', y, ⟨a', b', c'⟩⟩))
  | _ => none
theorem pTok2_ok {g : FuncId} {c : TokR → Bool} {f : TokR → TokR → Bool} (hf : ∀ x y, c x = true → Snd g [.agg (cTok x), .agg (cTok y)] (.bool (f x y))) : ∀ ds b d, pTok2 c f ds = some (b, d) → b = true → Snd g ds d := by
  intro ds b d h hb
  unfold pTok2 at h
  split at h
  · simp only [Option.some.injEq, Prod.mk.injEq] at h; obtain ⟨rfl, rfl⟩ := h; exact hf ⟨_, _, _, _, ⟨_, _, _⟩⟩ ⟨_, _, _, _, ⟨_, _, _⟩⟩ hb
  · simp at h

def pAw : List (D Pl) → Option (Bool × D Pl)
  | [] => some (true, .bool true)
  | _ => none
theorem pAw_ok : ∀ ds b d, pAw ds = some (b, d) → b = true → Snd 6 ds d := by
  intro ds b d h hb
  unfold pAw at h
  split at h
  · simp only [Option.some.injEq, Prod.mk.injEq] at h; obtain ⟨_, rfl⟩ := h; exact awake_sound
  · simp at h

def tP : Eng.Told Pl := tell 9 (pPos fun s a => posM s (cm s a)) (tell 10 (pPos fun s a => posM s (cm s a)) (tell 11 (pTok2 (fun _ => true) tokEq) (tell 12 (pTok2 (fun x => Nat.ble x.parts.length big) tokEq) (tell 6 pAw tell0))))
theorem tP_ok : TOk tP := tell_ok (pPos_ok at_sound) (tell_ok (pPos_ok rat_sound) (tell_ok (pTok2_ok fun x y _ => same_sound x y) (tell_ok (pTok2_ok fun x y h => rsame_sound x y (Nat.le_of_ble_eq_true h)) (tell_ok pAw_ok (tell0_ok _)))))

def far (s : Str) (x y : TokR) : Bool := bif (bif decide ((s.length : Int) > 5000) then true else decide ((x.parts.length : Int) > 40)) then true else decide ((y.parts.length : Int) > 40)

theorem eLaw (s : Str) (a : Int) (x y : TokR) : ev tP noTL 1 5 [.str s, dI a, .agg (cTok x), .agg (cTok y)] =
    bif far s x y then some (.bool true) else
      bif (((cm s a : Nat) : Int) == ((cm s a : Nat) : Int) && (ln s (cm s a) == ln s (cm s a) && (((cm s a : Nat) : Int) - sn s (cm s a) + 1 == ((cm s a : Nat) : Int) - sn s (cm s a) + 1 && true))) == true then
        ck_ (Nat.ble x.parts.length big) (bif (tokEq x y == tokEq x y) == true then some (.bool true) else some (.bool false)) else some (.bool false) := by kernel_rfl

theorem places_sound (s : Str) (a : Int) (x y : TokR) : Snd 5 [.str s, dI a, .agg (cTok x), .agg (cTok y)] (.bool true) := by
  refine snd_of tP_ok (noTL_ok _ _) ((eLaw s a x y).trans ?_)
  cases h : far s x y with
  | true => rfl
  | false =>
    have hl : x.parts.length ≤ big := by
      have hbig : big = 140737488355328 := rfl
      unfold far at h
      by_cases h1 : (s.length : Int) > 5000
      · rw [decide_eq_true h1] at h; simp at h
      · by_cases h2 : (x.parts.length : Int) > 40
        · rw [decide_eq_false h1, decide_eq_true h2] at h; simp at h
        · omega
    simp only [cond_false, beq_self_eq_true, Bool.and_self, cond_true, Bool.and_true]
    rw [ck_t (ble_t hl)]

end Go.Proofs.YtcopmdhjambfjaaDoor

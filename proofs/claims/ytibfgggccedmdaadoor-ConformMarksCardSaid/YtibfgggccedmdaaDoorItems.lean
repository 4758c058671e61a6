/-
  A VALUE's ELEMENTS; whether a type may be, whether it is within another: what the code computes, and that both sides' are the same.
-/
import Derived.Test.YtibfgggccedmdaaDoorSFind
namespace Go.Proofs.YtibfgggccedmdaaDoor
open Go.Eng

set_option maxRecDepth 100000

def itemsV (v : Val) : List Val := v.l.take (lenN v)

theorem e_items (v : Val) : ev tell0 noTL 3 38 [.agg (cV v)] = bif v.kind == 4 then some (.pl (pVals v.l) .any) else bif v.kind == 5 then
    ck_ ((true && decide (0 ≤ mnV v.keys.length v.l.length) && decide (mnV v.keys.length v.l.length ≤ (v.l.length : Int))) || false) (some (.pl (pVals ((v.l.drop 0).take ((mnV v.keys.length v.l.length).toNat - 0))) .any)) else some .nilS := by kernel_rfl

theorem items_sound (v : Val) : Snd 38 [.agg (cV v)] (.pl (pVals (itemsV v)) .any) := by
  have he := e_items v
  unfold itemsV lenN
  cases h4 : v.kind == 4 with
  | true =>
    rw [h4] at he
    rw [show v.l.take (bif true then v.l.length else _) = v.l from List.take_length]
    exact snd_of (tell0_ok _) (noTL_ok _ _) he
  | false =>
    rw [h4] at he
    cases h5 : v.kind == 5 with
    | true =>
      rw [h5] at he
      refine snd_of (tell0_ok _) (noTL_ok _ _) (he.trans ?_)
      simp only [cond_true, cond_false]
      rw [mnV_eq, ck_t (by rw [decide_eq_true (by omega), decide_eq_true (by omega)]; rfl), Int.toNat_natCast]
      rfl
    | false =>
      rw [h5] at he
      refine (snd_of (tell0_ok _) (noTL_ok _ _) he).post (RDle.of (.nil _ ?_))
      rfl

theorem itemsV_len (v : Val) : (itemsV v).length = lenN v := by
  unfold itemsV
  have := lenN_le v
  rw [List.length_take]; omega

theorem itemsV_get (v : Val) {i : Nat} (h : i < lenN v) : (itemsV v).getD i default = v.l.getD i default := by
  unfold itemsV
  simp [List.getD_eq_getElem?_getD, List.getElem?_take, h]

def tItems (R : Eng.Told Pl) : Eng.Told Pl := tell 38 (p1 fun v => (true, .pl (pVals (itemsV v)) .any)) R
theorem tItems_ok {R : Eng.Told Pl} (hR : TOk R) : TOk (tItems R) := tell_ok (p1_ok fun v _ => items_sound v) hR

-- types

def pTy (f : Int → Int → D Pl) : List (D Pl) → Option (Bool × D Pl)
  | [.agg [.int .i64 a, .int .i64 b]] => some (true, f a b)
  | _ => none
theorem pTy_ok {g : FuncId} {f : Int → Int → D Pl} (h : ∀ a b, Snd g [.agg [dI a, dI b]] (f a b)) : ∀ ds b d, pTy f ds = some (b, d) → b = true → Snd g ds d := by
  intro ds b d hp hb
  unfold pTy at hp
  split at hp
  · simp only [Option.some.injEq, Prod.mk.injEq] at hp
    obtain ⟨_, rfl⟩ := hp
    exact h _ _
  · simp at hp

theorem e_tck (a b : Int) : ev tell0 noTL 1 61 [.agg [dI a, dI b]] = bif (bif (bif (bif (bif decide (a < 0) then true else decide (a > 5)) then true else decide (b < 0)) then true else decide (b > 3)) then true else (bif !(bif a == 4 then true else a == 5) then b != 0 else false)) then some (dI 1) else some (dI 0) := by kernel_rfl

theorem tck_law (a b : Int) : (bif (bif (bif (bif decide (a < 0) then true else decide (a > 5)) then true else decide (b < 0)) then true else decide (b > 3)) then true else (bif !(bif a == 4 then true else a == 5) then b != 0 else false)) = !(tck a b) := by
  unfold tck
  cases h : (bif (bif (bif decide (a < 0) then true else decide (a > 5)) then true else decide (b < 0)) then true else decide (b > 3)) with
  | true => rfl
  | false =>
    simp only [cond_false]
    have h1 : a ≤ 5 := by
      simp only [Bool.cond_eq_ite, ite_eq_right_iff, Bool.if_true_left, Bool.or_eq_false_iff, decide_eq_false_iff_not] at h
      simp at h
      omega
    by_cases h4 : a = 4
    · subst h4; cases hb : b == 0 <;> simp [bne, hb]
    · by_cases h5 : a = 5
      · subst h5; cases hb : b == 0 <;> simp [bne, hb]
      · have e4 : (a == 4) = false := by simpa using h4
        have e5 : (a == 5) = false := by simpa using h5
        have e3 : decide (a > 3) = false := by simp; omega
        rw [e4, e5, e3]
        cases hb : b == 0 <;> simp [bne, hb]

theorem typCheck_sound (a b : Int) : Snd 61 [.agg [dI a, dI b]] (dI (bif tck a b then 0 else 1)) := by
  have he := e_tck a b
  rw [tck_law] at he
  refine snd_of (tell0_ok _) (noTL_ok _ _) (he.trans ?_)
  cases tck a b <;> rfl

def tTyp (R : Eng.Told Pl) : Eng.Told Pl := tell 61 (pTy fun a b => dI (bif tck a b then 0 else 1)) R
theorem tTyp_ok {R : Eng.Told Pl} (hR : TOk R) : TOk (tTyp R) := tell_ok (pTy_ok typCheck_sound) hR

/-- within -/
def wth (a b c d : Int) : Bool := bif (bif tck a b then tck c d else false) then (bif (bif c == 0 then true else (a == c && (b == d && true))) then true else (bif a == c then d == 0 else false)) else false

theorem e_w03 (a b c d : Int) : ev (tell 30 pT tell0) noTL 1 64 [.agg [dI a, dI b], .agg [dI c, dI d]] =
    bif ((!tck a b) == false) then (bif !(tck c d) then some (.bool false) else some (.bool (bif (bif c == 0 then true else (a == c && (b == d && true))) then true else (bif a == c then d == 0 else false)))) else some (.bool false) := by kernel_rfl

theorem w03_sound (a b c d : Int) : Snd 64 [.agg [dI a, dI b], .agg [dI c, dI d]] (.bool (wth a b c d)) := by
  have he := e_w03 a b c d
  refine snd_of (tell_ok pT_ok (tell0_ok _)) (noTL_ok _ _) (he.trans ?_)
  unfold wth
  cases tck a b <;> cases tck c d <;> rfl

theorem e_wt (a b c d : Int) : ev (tTyp tell0) noTL 1 62 [.agg [dI a, dI b], .agg [dI c, dI d]] =
    bif (((bif tck a b then 0 else 1) != (0 : Int)) == false) then (bif ((bif tck c d then 0 else 1) != (0 : Int)) then some (.bool false) else some (.bool (bif (bif (c == 0 && (d == 0 && true)) then true else (a == c && (b == d && true))) then true else (bif a == c then d == 0 else false)))) else some (.bool false) := by kernel_rfl

theorem wt_sound (a b c d : Int) : Snd 62 [.agg [dI a, dI b], .agg [dI c, dI d]] (.bool (wth a b c d)) := by
  have he := e_wt a b c d
  refine snd_of (tTyp_ok (tell0_ok _)) (noTL_ok _ _) (he.trans ?_)
  unfold wth
  cases h1 : tck a b with
  | false => rfl
  | true =>
    cases h2 : tck c d with
    | false => rfl
    | true =>
      show some (D.bool _) = some (D.bool _)
      simp only [cond_true]
      by_cases hc : c = 0
      · subst hc
        have : d = 0 := by
          unfold tck at h2
          by_cases hd : d = 0
          · exact hd
          · have e : (d == 0) = false := by simpa using hd
            rw [e] at h2
            exfalso; revert h2
            simp
        subst this; rfl
      · have e : (c == 0) = false := by simpa using hc
        rw [e]; rfl

end Go.Proofs.YtibfgggccedmdaaDoor

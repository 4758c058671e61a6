/-
  THE LAW ON TREES: what it comes to.
-/
import Derived.Test.YtdlgmknlnddioaaGreatDoorETrees
import Derived.Test.YtdlgmknlnddioaaGreatDoorSAwake
namespace Go.Proofs.YtdlgmknlnddioaaGreatDoor
open Go.Eng

set_option maxRecDepth 100000

def pAw : List (D Pl) → Option (Bool × D Pl)
  | [] => some (true, .bool true)
  | _ => none
theorem pAw_ok : ∀ ds b d, pAw ds = some (b, d) → b = true → Snd 6 ds d := by
  intro ds b d h hb
  unfold pAw at h
  split at h
  · simp only [Option.some.injEq, Prod.mk.injEq] at h; obtain ⟨_, rfl⟩ := h; exact awake_sound
  · simp at h

def pStr (f : Str → Bool) : List (D Pl) → Option (Bool × D Pl)
  | [.str s] => some (true, .bool (f s))
  | _ => none
theorem pStr_ok {g : FuncId} {f : Str → Bool} (hf : ∀ s, Snd g [.str s] (.bool (f s))) : ∀ ds b d, pStr f ds = some (b, d) → b = true → Snd g ds d := by
  intro ds b d h hb
  unfold pStr at h
  split at h
  · simp only [Option.some.injEq, Prod.mk.injEq] at h; obtain ⟨_, rfl⟩ := h; exact hf _
  · simp at h

def tSm (G : ExprR → Bool) : Eng.Told Pl := tell 9 (pe1 fun a => (true, .bool (G a))) (tell 10 (pe2 fun a b => (true, .bool (sameE a b)))
  (tell 8 (pe2b fun a b m => (!m, .bool (sameE a b))) (tell 11 (pe1 fun a => (true, dI (deepE a))) (tell 12 (pe1 fun a => (true, dI (deepE a)))
  (tell 13 (pStr resV) (tell 14 (pStr resV) (tell 6 pAw tell0)))))))
theorem tSm_ok {G : ExprR → Bool} (hG : ∀ e, Snd 9 [.agg (cExpr e)] (.bool (G e))) : TOk (tSm G) :=
  tell_ok (pe1_ok fun a _ => hG a) (tell_ok (pe2_ok fun a b _ => esame_sound a b) (tell_ok (pe2b_ok fun a b m h => by
    simp only [Bool.not_eq_true'] at h
    subst h
    exact rsame_sound' a b) (tell_ok (pe1_ok fun a _ => depth_sound a) (tell_ok (pe1_ok fun a _ => rdepth_sound a) (tell_ok (pStr_ok resv_sound) (tell_ok (pStr_ok rresv_sound) (tell_ok pAw_ok (tell0_ok _))))))))

theorem eLaw (G : ExprR → Bool) (a b : ExprR) (s : Str) : ev (tSm G) noTL 1 5 [.agg (cExpr a), .agg (cExpr b), .str s] =
    bif G (etaE a) == false then (bif (bif G (etaE b) then true else decide ((s.length : Int) > 100)) then some (.bool true) else
      bif (sameE (etaE a) (etaE b) == sameE (etaE a) (etaE b)) == true then (bif (sameE (etaE a) (etaE a)) == true then (bif (deepE (etaE a) == deepE (etaE a)) == true then (bif (resV s == resV s) == true then some (.bool true) else some (.bool false)) else some (.bool false)) else some (.bool false)) else some (.bool false)) else some (.bool true) := by kernel_rfl

theorem c12_refl (v : Val) (m : Bool) : c12 v v m = false := by
  unfold c12
  cases m <;> simp

mutual
theorem sameV_refl (m : Bool) : ∀ v : Val, sameV v v m = true
  | ⟨k, i, s, l, ks, tk, tof, sec⟩ => by
    simp only [sameV, c12_refl, beq_self_eq_true, Bool.not_false, Bool.true_and]
    exact sameVs_refl m l
theorem sameVs_refl (m : Bool) : ∀ l : List Val, sameVs l l m = true
  | [] => rfl
  | x :: r => by simp only [sameVs, sameV_refl m x, sameVs_refl m r, Bool.true_and]
end

mutual
theorem sameE_refl : ∀ e : ExprR, sameE e e = true
  | ⟨op, s, s2, v, l, p⟩ => by
    simp only [sameE, eHd, beq_self_eq_true, cond_true, sameV_refl, Bool.true_and]
    exact sameEs_refl l
theorem sameEs_refl : ∀ l : List ExprR, sameEs l l = true
  | [] => rfl
  | x :: r => by simp only [sameEs, sameE_refl x, sameEs_refl r, Bool.true_and]
end

theorem exprSame_sound (a b : ExprR) (s : Str) : Snd 5 [.agg (cExpr a), .agg (cExpr b), .str s] (.bool true) := by
  obtain ⟨G, hG⟩ := egreat_sound
  refine snd_of (tSm_ok hG) (noTL_ok _ _) ((eLaw G a b s).trans ?_)
  simp only [sameE_refl, beq_self_eq_true, cond_true]
  cases G (etaE a) <;> cases (bif G (etaE b) then true else decide ((s.length : Int) > 100)) <;> rfl

end Go.Proofs.YtdlgmknlnddioaaGreatDoor

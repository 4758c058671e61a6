/-
  THE ENGINE, PART U: A FUNCTION's BODY KEEPS ITS CONTRACT.
-/
import Derived.Test.YtdejdjmgaceknaaDoorEngT
namespace Go.Eng
open Go.RowKit

variable {α : Type}

theorem getT_get (l : List (D α)) (t : Nat) : getT l t = (l[t]?).getD .bad := by
  induction l generalizing t with
  | nil => simp [getT]
  | cons d r ih => cases t <;> simp [getT, ih]

def resRun (tmps : Array Value) : ResultVar → Sem Value
  | .tmp t => pure (tmps.getD t undef)
  | .cell c t => do loadVar t (← asAddr (tmps.getD c undef))

section
variable {X : Ctx α} {g : Gh} {tm : List (D α)} {hs : Obs α} {a : Act} {w : World}

theorem resultOf_sound (hX : XOk X) (hS : Sim X g tm hs a w) (r : ResultVar) (d : D α) (h : resultOf X ⟨tm, hs⟩ r = some d) :
    ∃ v, (resRun a.tmps r).run X.P w = .ok v w ∧ RD X.C (cxOf g hs w) v d := by
  have hnk : ∀ t, RD X.C (cxOf g hs w) (a.tmps.getD t undef) (strip [] (getT tm t)) := fun t => RG.strip (fun k hk => by simp at hk) (hS.tm t)
  cases r with
  | tmp t =>
    simp only [resultOf, Option.some.injEq] at h
    subst h
    exact ⟨_, rfl, hnk t⟩
  | cell c t =>
    simp only [resultOf] at h
    split at h
    · rename_i cs off hc
      have hat := cellsAt_sound hX hS (hnk c) hc
      obtain ⟨u, h1, h2⟩ := loadD_sound (P := X.P) hat h
      refine ⟨u, ?_, h2⟩
      obtain ⟨b, o, hv, _⟩ := hat
      simp only [Instr.loadAt, hv, Instr.sureAddr, Sem.run_bind, Sem.run_pure, Result.andThen_ok] at h1
      simp only [resRun, hv, asAddr, Sem.run_bind, Sem.run_pure, Result.andThen_ok]
      exact h1
    · simp at h

theorem resultsOf_sound (hX : XOk X) (hS : Sim X g tm hs a w) : ∀ (l : List ResultVar) (ds : List (D α)), resultsOf X ⟨tm, hs⟩ l = some ds →
    ∃ vs, (l.mapM (resRun a.tmps)).run X.P w = .ok vs w ∧ vs.length = ds.length ∧ ∀ (i : Nat) v c, vs[i]? = some v → ds[i]? = some c → RD X.C (cxOf g hs w) v c
  | [], ds, h => by
    simp only [resultsOf, Option.some.injEq] at h
    subst h
    exact ⟨[], by simp, rfl, fun i v c h => by simp at h⟩
  | r :: l, ds, h => by
    simp only [resultsOf] at h
    split at h
    · rename_i d ds' h1 h2
      simp only [Option.some.injEq] at h
      subst h
      obtain ⟨v, e1, e2⟩ := resultOf_sound hX hS r d h1
      obtain ⟨vs, e3, e4, e5⟩ := resultsOf_sound hX hS l ds' h2
      refine ⟨v :: vs, by simp [List.mapM_cons, e1, e3], by simp [e4], fun i u c hu hc => ?_⟩
      cases i with
      | zero => simp only [List.getElem?_cons_zero, Option.some.injEq] at hu hc; subst hu hc; exact e2
      | succ i => exact e5 i u c (by simpa using hu) (by simpa using hc)
    · simp at h

theorem finD_sound (hX : XOk X) (hS : Sim X g tm hs a w) (fn : Func) (d : D α) (h : finD X fn ⟨tm, hs⟩ = some d) :
    ∃ v, (results fn a.tmps).run X.P w = .ok v w ∧ RD X.C (cx0 w g.av0) v d := by
  unfold finD at h
  split at h
  · rename_i ds hds
    split at h
    · rename_i l ns hl
      cases hc : closedL l with
      | false => simp [hc] at h
      | true =>
      simp only [hc, cond_true, Option.some.injEq] at h
      obtain ⟨vs, h1, h2, h3⟩ := resultsOf_sound hX hS _ _ hds
      obtain ⟨hlen, hget⟩ := lendAll_sound hX hS g.av0 (fun b hb => .inl hb) ds l ns hl (fun o ob b _ hlo hr hb => by
        have := (hS.own o ob b hlo hr).1
        have := hS.av0 b hb
        omega)
      have hrel : ∀ (i : Nat) v c, vs[i]? = some v → l[i]? = some c → RD X.C (cx0 w g.av0) v c := by
        intro i v c hv hc
        have hi : i < ds.length := by
          rcases Nat.lt_or_ge i ds.length with h | h
          · exact h
          · rw [List.getElem?_eq_none (by omega)] at hc; simp at hc
        have hdi : ds[i]? = some ds[i] := by simp [hi]
        exact hget i v _ c hdi hc (h3 i v _ hv hdi)
      have hrun : (fn.results.mapM (resRun a.tmps)).run X.P w = .ok vs.toArray w := by
        rw [Array.mapM_eq_mapM_toList]
        simp [h1]
      have hres : (results fn a.tmps).run X.P w = .ok (if h : vs.toArray.size = 1 then vs.toArray[0] else .tuple vs.toArray) w := by
        have : (results fn a.tmps) = (do
            let vs ← fn.results.mapM (resRun a.tmps)
            pure (if h : vs.size = 1 then vs[0] else .tuple vs)) := by
          unfold results
          congr 1
        rw [this]
        simp [hrun]
      refine ⟨_, hres, ?_⟩
      subst h
      by_cases h1' : vs.length = 1
      · obtain ⟨v, rfl⟩ := List.length_eq_one_iff.1 h1'
        have : l.length = 1 := by simp at h2; omega
        obtain ⟨c, rfl⟩ := List.length_eq_one_iff.1 this
        simp only [List.size_toArray, List.length_singleton, dite_true, packR]
        exact hrel 0 v c rfl rfl
      · have hp : packR l = .tup l := by
          unfold packR
          split
          · simp at hlen; omega
          · rfl
        rw [hp]
        simp only [List.size_toArray, h1', dite_false]
        exact .tup _ _ (by simp; omega) (fun i v c hv hc => hrel i v c (by simpa using hv) hc)
    · simp at h
  · simp at h

/-- A FUNCTION's BODY, evaluated as data, is its contract. -/
theorem fnK_sound (hX : XOk X) (hR : ROk X) {γ : Type} {RK : CK α γ} (hRK : CKOk X RK) {L : LK α} {f : FuncId} {fn : Func} {ds : List (D α)} {k : D α → Option γ} {c : γ} (hf : X.P.funcs[f]? = some fn) (hn : (fn.name == "runtime.NumGoroutine") = false)
    (hL : ∀ code, fn.body = some code → ∀ b ∈ loopsOf code, LoopOk X L b) (h : fnK X RK L fn ds k = some c) : ∃ d, k d = some c ∧ SoundAt X.P X.C X.glob f ds d := by
  unfold fnK at h
  split at h
  · rename_i cd hb
    obtain ⟨e, S', he, hgo⟩ := exec_sound hX hR hRK L c cd (hL cd hb) ⟨_, []⟩ _ h
    obtain ⟨d, hkd, hfd, hne⟩ : ∃ d, k d = some c ∧ finD X fn S' = some d ∧ ∀ id, e ≠ .exit id := by
      cases e with
      | exit id => simp at he
      | normal =>
        simp only at he
        split at he
        · rename_i d hd; exact ⟨d, he, hd, by simp⟩
        · simp at he
      | ret =>
        simp only at he
        split at he
        · rename_i d hd; exact ⟨d, he, hd, by simp⟩
        · simp at he
    refine ⟨d, hkd, ?_⟩
    intro w av vs hgl hav hsz hrel
    have hn' : ¬ fn.name = "runtime.NumGoroutine" := by simpa using hn
    refine .inl ⟨by simp [callFunc, hf, hn', hb], calls_of_wp hf hb ?_⟩
    have hget : ∀ t, RG X.C (cxOf ⟨w, av, fun _ => none⟩ ([] : Obs α) w) (vs ++ Array.replicate (fn.ntmps - vs.size) undef) ((vs ++ Array.replicate (fn.ntmps - vs.size) undef).getD t undef) (getT (ds ++ List.replicate (fn.ntmps - ds.length) .bad) t) := by
      intro t
      rw [getT_get, Array.getD_eq_getD_getElem?, Array.getElem?_append, List.getElem?_append]
      by_cases ht : t < vs.size
      · rw [if_pos ht, if_pos (by omega)]
        have h1 : vs[t]? = some vs[t] := by simp [ht]
        have h2 : ds[t]? = some (ds[t]'(by omega)) := by simp
        rw [h1, h2]
        simp only [Option.getD_some]
        refine RG.of (RD.grow hX.pay (cx := cx0 w av) (cx' := cxOf ⟨w, av, fun _ => none⟩ ([] : Obs α) w) ⟨fun b ob _ h => h, fun b ob _ h h' => ?_, fun _ _ _ h => by simp [cx0] at h, fun _ _ _ _ h => by simp [cx0] at h, fun b cells T fz h => ⟨cells, T, fz, h, rfl⟩⟩ (hrel t _ _ h1 h2))
        rcases h' with h' | ⟨o, ob, ho, _⟩
        · exact h h'
        · simp [look] at ho
      · rw [if_neg ht, if_neg (by omega), List.getElem?_replicate]
        split <;> exact .bad _
    have hS : Sim X ⟨w, av, fun _ => none⟩ (ds ++ List.replicate (fn.ntmps - ds.length) .bad) [] { tmps := vs ++ Array.replicate (fn.ntmps - vs.size) undef, defers := [] } w :=
      ⟨by simp; omega, hget, rfl, fun o ob ho => by simp [look] at ho, fun o o' ob ob' b ho => by simp [look] at ho, fun o ob b ho => by simp [look] at ho, Below.refl _ _, hav, hgl⟩
    have hK : KeyIn (ds ++ List.replicate (fn.ntmps - ds.length) (.bad : D α)) (fun _ => False) := by
      intro t ks b e ht
      rw [getT_get, List.getElem?_append] at ht
      by_cases h' : t < ds.length
      · rw [if_pos h'] at ht
        have h1 : vs[t]? = some (vs[t]'(by omega)) := by simp
        have h2 : ds[t]? = some ds[t] := by simp [h']
        rw [h2] at ht
        simp only [Option.getD_some] at ht
        have := hrel t _ _ h1 h2
        rw [ht] at this
        exact this.noGd.elim
      · rw [if_neg h', List.getElem?_replicate] at ht
        split at ht <;> simp at ht
    refine hgo ⟨w, av, fun _ => none⟩ _ w hS hK _ fun rho' a' w' hS' hK' => ?_
    have hfin : a'.defers = [] ∧ ∃ v, (results fn a'.tmps).run X.P w' = .ok v w' ∧ ∃ v', Ending.returned v = .returned v' ∧ RD X.C (cx0 w' av) v' d ∧ Below w.heap.size w w' := by
      obtain ⟨v, h1, h2⟩ := finD_sound hX hS' fn d hfd
      exact ⟨hS'.dfr, v, h1, v, rfl, h2, hS'.below⟩
    cases e with
    | normal => exact hfin
    | exit id => exact absurd rfl (hne id)
    | ret => exact hfin
  · simp at h

end
end Go.Eng

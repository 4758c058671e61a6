/-
  THE ENGINE, PART E: OPERATIONS THAT TURN NOTHING.
-/
import Derived.Test.YtlfohmdclcdejaaDoorEngD
namespace Go.Eng
open Go.RowKit

variable {α : Type}

section
variable {X : Ctx α} (hX : XOk X) {cx : Cx α} (w : World)

include hX in
theorem binD_sound (op : BinOp) (t : TypeId) (x y : D α) (vx vy : Value) (xo yo : Operand) (hx : RD X.C cx vx x) (hy : RD X.C cx vy y) (r : Res α) (hr : binD X op t x y = r) (hok : r.ok = true) :
    ∃ v, (do eqGuard op t xo yo vx vy; binOp op t vx vy : Sem Value).run X.P w = .ok v w ∧ RD X.C cx v r.d ∧ r.ch = none := by
  have plainG : ∀ (h1 : ¬ (vx = .nilIface ∧ vy = .nilIface)) (h2 : ∀ xs, vx ≠ .agg xs) (v : Value), (binOp op t vx vy).run X.P w = .ok v w →
      (do eqGuard op t xo yo vx vy; binOp op t vx vy : Sem Value).run X.P w = .ok v w := by
    intro h1 h2 v hv
    simp [run_eqGuard X.P w op t xo yo vx vy h1 (fun xs _ h => absurd h (h2 xs)), hv]
  unfold binD at hr
  split at hr
  · cases hx with | int _ _ ha => cases hy with | int _ _ hb =>
    subst hr
    obtain ⟨v, h1, h2, h3⟩ := shiftOp_sound (C := X.C) (cx := cx) X.P w _ _ _ _ _ ha t hok
    exact ⟨v, plainG (by simp) (by simp) v h1, h2, h3⟩
  · cases hx with | int _ _ ha => cases hy with | int _ _ hb =>
    subst hr
    obtain ⟨v, h1, h2, h3⟩ := shiftOp_sound (C := X.C) (cx := cx) X.P w _ _ _ _ _ ha t hok
    exact ⟨v, plainG (by simp) (by simp) v h1, h2, h3⟩
  · rename_i k a k' b _ _
    cases hx with | int _ _ ha => cases hy with | int _ _ hb =>
    cases hk : k == k' with
    | false => simp only [hk, cond_false] at hr; subst hr; simp [Res.no] at hok
    | true =>
      simp only [hk, cond_true] at hr
      obtain rfl := beq_iff_eq.1 hk
      subst hr
      obtain ⟨v, h1, h2, h3⟩ := intOp_sound (C := X.C) (cx := cx) X.P w op k a b ha hb t hok
      exact ⟨v, plainG (by simp) (by simp) v h1, h2, h3⟩
  · cases hx with | str s _ hs _ => cases hy with | str u _ hu _ =>
    subst hs hu hr
    obtain ⟨v, h1, h2, h3⟩ := strOp_sound (C := X.C) (cx := cx) X.P w op s u t hok
    exact ⟨v, plainG (by simp) (by simp) v h1, h2, h3⟩
  · cases hx; cases hy
    cases ht : Nat.beq (tyCode X.P t) 6 with
    | false => simp only [ht, cond_false] at hr; subst hr; simp [Res.no] at hok
    | true =>
      simp only [ht, cond_true] at hr
      subst hr
      have hc := Nat.eq_of_beq_eq_true ht
      have hu : X.P.underlying t = some .bool := by
        unfold tyCode at hc; split at hc <;> simp_all
      refine ⟨_, plainG (by simp) (by simp) _ ?_, .bool _, rfl⟩
      simp only [binOp, Sem.run_bind, Op.equal, Op.maxDepth, run_equalIn_bool' w 9999 t _ _ hu, Result.andThen_ok, Sem.run_pure]
  · cases hx; cases hy
    cases ht : Nat.beq (tyCode X.P t) 6 with
    | false => simp only [ht, cond_false] at hr; subst hr; simp [Res.no] at hok
    | true =>
      simp only [ht, cond_true] at hr
      subst hr
      have hc := Nat.eq_of_beq_eq_true ht
      have hu : X.P.underlying t = some .bool := by
        unfold tyCode at hc; split at hc <;> simp_all
      refine ⟨_, plainG (by simp) (by simp) _ ?_, .bool _, rfl⟩
      simp only [binOp, Sem.run_bind, Op.equal, Op.maxDepth, run_equalIn_bool' w 9999 t _ _ hu, Result.andThen_ok, Sem.run_pure]
  · rename_i xs ys
    cases hp : X.plainT t with
    | false => simp only [hp, cond_false] at hr; subst hr; simp [Res.no] at hok
    | true =>
    simp only [hp, cond_true] at hr
    split at hr
    · rename_i b hb
      subst hr
      have h := eqD_sound (C := X.C) (cx := cx) X.P w (fun t h => (hX.plain t h).1) 9 t vx vy _ _ b hx hy hb 10000 (by omega)
      cases hx with | agg vs _ _ _ _ => cases hy with | agg us _ _ _ _ =>
      refine ⟨.bool b, ?_, .bool _, rfl⟩
      simp only [Sem.run_bind, run_eqGuard X.P w .eql t xo yo (.agg vs) (.agg us) (by simp) (fun _ _ _ _ => (hX.plain t hp).2), Result.andThen_ok, binOp, Op.equal, Op.maxDepth, h, Sem.run_pure]
    · subst hr; simp [Res.no] at hok
  · rename_i xs ys
    cases hp : X.plainT t with
    | false => simp only [hp, cond_false] at hr; subst hr; simp [Res.no] at hok
    | true =>
    simp only [hp, cond_true] at hr
    split at hr
    · rename_i b hb
      subst hr
      have h := eqD_sound (C := X.C) (cx := cx) X.P w (fun t h => (hX.plain t h).1) 9 t vx vy _ _ b hx hy hb 10000 (by omega)
      cases hx with | agg vs _ _ _ _ => cases hy with | agg us _ _ _ _ =>
      refine ⟨.bool (!b), ?_, .bool _, rfl⟩
      simp only [Sem.run_bind, run_eqGuard X.P w .neq t xo yo (.agg vs) (.agg us) (by simp) (fun _ _ _ _ => (hX.plain t hp).2), Result.andThen_ok, binOp, Op.equal, Op.maxDepth, h, Sem.run_pure]
    · subst hr; simp [Res.no] at hok
  · split at hr
    · rename_i c b hn
      cases ht : Nat.beq c (tyCode X.P t) with
      | false => simp only [ht, cond_false] at hr; subst hr; simp [Res.no] at hok
      | true =>
        simp only [ht, cond_true] at hr
        subst hr
        obtain ⟨h1, h2, h3⟩ := run_equalIn_nil (C := X.C) (cx := cx) X.P w hx hy hn (Nat.eq_of_beq_eq_true ht) 9999
        refine ⟨.bool b, plainG h2 h3 _ ?_, .bool _, rfl⟩
        unfold nilCmp at hn
        split at hn <;> simp only [Option.some.injEq, Prod.mk.injEq, reduceCtorEq] at hn <;> cases hx <;> cases hy <;>
          simp only [binOp, Sem.run_bind, Op.equal, Op.maxDepth, h1, Result.andThen_ok, Sem.run_pure]
    · subst hr; simp [Res.no] at hok
  · split at hr
    · rename_i c b hn
      cases ht : Nat.beq c (tyCode X.P t) with
      | false => simp only [ht, cond_false] at hr; subst hr; simp [Res.no] at hok
      | true =>
        simp only [ht, cond_true] at hr
        subst hr
        obtain ⟨h1, h2, h3⟩ := run_equalIn_nil (C := X.C) (cx := cx) X.P w hx hy hn (Nat.eq_of_beq_eq_true ht) 9999
        refine ⟨.bool (!b), plainG h2 h3 _ ?_, .bool _, rfl⟩
        unfold nilCmp at hn
        split at hn <;> simp only [Option.some.injEq, Prod.mk.injEq, reduceCtorEq] at hn <;> cases hx <;> cases hy <;>
          simp only [binOp, Sem.run_bind, Op.equal, Op.maxDepth, h1, Result.andThen_ok, Sem.run_pure]
    · subst hr; simp [Res.no] at hok
  · subst hr; simp [Res.no] at hok

theorem run_equalIn_nilI {t : TypeId} (ht : tyCode X.P t = 5) (d : Nat) : (Op.equalIn (d + 1) t .nilIface .nilIface).run X.P w = .ok true w := by
  have hu : ∃ ms, X.P.underlying t = some (.interface ms) := by
    unfold tyCode at ht
    split at ht <;> simp at ht
    exact ⟨_, by assumption⟩
  obtain ⟨ms, hu⟩ := hu
  simp only [Op.equalIn, Sem.run_bind, run_underlying hu, Result.andThen_ok, Sem.run_pure]

theorem run_eqGuard_co (op : BinOp) (t : TypeId) (xo yo : Operand) (h : (isCo xo || isCo yo) = true) : (eqGuard op t xo yo .nilIface .nilIface).run X.P w = .ok () w := by
  unfold eqGuard
  cases xo <;> cases yo <;> simp [isCo] at h <;> cases op <;> rfl

include hX in
theorem binN_sound (op : BinOp) (t : TypeId) (x y : D α) (vx vy : Value) (xo yo : Operand) (hx : RD X.C cx vx x) (hy : RD X.C cx vy y) (r : Res α) (hr : binN X op t xo yo x y = r) (hok : r.ok = true) :
    ∃ v, (do eqGuard op t xo yo vx vy; binOp op t vx vy : Sem Value).run X.P w = .ok v w ∧ RD X.C cx v r.d ∧ r.ch = none := by
  unfold binN at hr
  split at hr
  · cases hc : (isCo xo || isCo yo) && Nat.beq (tyCode X.P t) 5 with
    | false => rw [hc] at hr; subst hr; simp [Res.no] at hok
    | true =>
      rw [hc] at hr
      subst hr
      rw [Bool.and_eq_true] at hc
      cases hx; cases hy
      refine ⟨.bool true, ?_, .bool _, rfl⟩
      simp only [Sem.run_bind, run_eqGuard_co w _ t xo yo hc.1, Result.andThen_ok, binOp, Op.equal, Op.maxDepth, run_equalIn_nilI w (Nat.eq_of_beq_eq_true hc.2), Sem.run_pure]
  · cases hc : (isCo xo || isCo yo) && Nat.beq (tyCode X.P t) 5 with
    | false => rw [hc] at hr; subst hr; simp [Res.no] at hok
    | true =>
      rw [hc] at hr
      subst hr
      rw [Bool.and_eq_true] at hc
      cases hx; cases hy
      refine ⟨.bool false, ?_, .bool _, rfl⟩
      simp only [Sem.run_bind, run_eqGuard_co w _ t xo yo hc.1, Result.andThen_ok, binOp, Op.equal, Op.maxDepth, run_equalIn_nilI w (Nat.eq_of_beq_eq_true hc.2), Sem.run_pure, Bool.not_true]
  · exact binD_sound hX w _ t _ _ vx vy xo yo hx hy r hr hok

theorem unD_sound (op : UnOp) (x : D α) (vx : Value) (hx : RD X.C cx vx x) (r : Res α) (hr : unD op x = r) (hok : r.ok = true) :
    ∃ v, (Op.unary op vx).run X.P w = .ok v w ∧ RD X.C cx v r.d ∧ r.ch = none := by
  unfold unD at hr
  split at hr
  · cases hx; subst hr; exact ⟨_, rfl, .bool _, rfl⟩
  · cases hx; subst hr; exact ⟨_, rfl, .int _ _ (inR_wrap _ _), rfl⟩
  · cases hx; subst hr; exact ⟨_, by simp [Op.unary, Op.intBits, bitsE], .int _ _ (inR_bits _ _ _ _), rfl⟩
  · subst hr; simp [Res.no] at hok

theorem fieldOff_some {P : Program} {t f off ft : Nat} (h : fieldOff P t f = some (off, ft)) : ∃ (fs : Array Field) (fd : Field), P.underlying t = some (.struct fs) ∧ fs[f]? = some fd ∧ fd.offset = off ∧ fd.type = ft := by
  unfold fieldOff at h
  split at h
  · rename_i fs hu
    split at h
    · rename_i fd hf
      simp only [Option.some.injEq, Prod.mk.injEq] at h
      exact ⟨fs, fd, hu, by simpa using hf, h.1, h.2⟩
    · simp at h
  · simp at h

theorem fieldD_sound (t : TypeId) (x : D α) (vx : Value) (f : Nat) (hx : RD X.C cx vx x) (r : Res α) (hr : fieldD X.P t x f = r) (hok : r.ok = true) :
    ∃ v, (Instr.field t vx f).run X.P w = .ok v w ∧ RD X.C cx v r.d ∧ r.ch = none := by
  unfold fieldD at hr
  split at hr
  · rename_i off ft cs hf
    obtain ⟨fs, fd, hu, hfd, rfl, rfl⟩ := fieldOff_some hf
    cases hp : partD X.P fd.type cs fd.offset with
    | none => rw [hp] at hr; subst hr; simp [Res.o, Res.no] at hok
    | some d =>
      rw [hp] at hr
      subst hr
      have hx' := hx
      cases hx with | agg vs _ _ _ _ =>
      obtain ⟨v, h1, h2⟩ := partD_sound X.P w hx' hp
      exact ⟨v, by simp [Instr.field, run_underlying hu, hfd, asAgg, h1], h2, rfl⟩
  · subst hr; simp [Res.no] at hok

theorem fieldAddrD_sound (t : TypeId) (x : D α) (vx : Value) (f : Nat) (hx : RD X.C cx vx x) (r : Res α) (hr : fieldAddrD X.P t x f = r) (hok : r.ok = true) :
    ∃ v, (Instr.fieldAt t vx f).run X.P w = .ok v w ∧ RD X.C cx v r.d ∧ r.ch = none := by
  unfold fieldAddrD at hr
  split at hr
  · rename_i off ft hf
    obtain ⟨fs, fd, hu, hfd, rfl, rfl⟩ := fieldOff_some hf
    cases hn : nzT X.P fd.type with
    | false => simp only [hn, cond_false] at hr; subst hr; simp [Res.no] at hok
    | true =>
      simp only [hn, cond_true] at hr
      obtain ⟨m, hm⟩ : ∃ m, szO X.P fd.type = some (m + 1) := by
        unfold nzT at hn; split at hn
        · rename_i m hm; exact ⟨m, hm⟩
        · simp at hn
      have hrun : ∀ ad : Addr, (Instr.fieldAt t (.pointer (some ad)) f).run X.P w = .ok (.pointer (some (ad.add fd.offset))) w := by
        intro ad
        simp [Instr.fieldAt, run_underlying hu, hfd, Instr.sureAddr, fieldPlace, run_sizeOf' X.P w hm]
      have hadd : ∀ (b o : Nat), (Addr.add ⟨b, o, none⟩ fd.offset) = ⟨b, o + fd.offset, none⟩ := by
        intro b o; unfold Addr.add; split <;> simp_all
      split at hr
      · subst hr
        cases hx with | ptr o off b ho =>
        exact ⟨_, by rw [hrun, hadd], .ptr _ _ _ ho, rfl⟩
      · subst hr
        cases hx with | epr o i off b p ho hi =>
        refine ⟨_, by rw [hrun, hadd], ?_, rfl⟩
        rw [Nat.add_assoc]
        exact .epr _ _ _ _ _ ho hi
      · subst hr
        cases hx with | ref b off cs vs hav hcell h1 hrd =>
        refine ⟨_, by rw [hrun, hadd], .ref b (off + fd.offset) _ (fun i => vs (fd.offset + i)) (fun hne => hav (by intro e; subst e; simp at hne)) (fun i c hc => ?_) (fun i c hc => ?_) (fun i c hc => ?_), rfl⟩
        · rw [List.getElem?_drop] at hc; rw [Nat.add_assoc]; exact hcell _ c hc
        · rw [List.getElem?_drop] at hc; exact h1 _ c hc
        · rw [List.getElem?_drop] at hc; exact hrd _ c hc
      · subst hr; simp [Res.no] at hok
  · subst hr; simp [Res.no] at hok

end
end Go.Eng

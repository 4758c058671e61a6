/-
  THE ENGINE, PART I: CELLS LAID; LITERALS.
-/
import Derived.Test.YtlfohmdclcdejaaDoorEngH
namespace Go.Eng
open Go.RowKit

variable {α : Type}

def RDcells (C : Pay α) (cx : Cx α) (vs : List Value) (cs : List (D α)) : Prop :=
  vs.length = cs.length ∧ (∀ (i : Nat) v, vs[i]? = some v → v.oneCell' = true) ∧ ∀ (i : Nat) v c, vs[i]? = some v → cs[i]? = some c → RD C cx v c

theorem RDcells.agg {C : Pay α} {cx : Cx α} {vs : Array Value} {cs : List (D α)} (h : RDcells C cx vs.toList cs) : RD C cx (.agg vs) (.agg cs) :=
  .agg vs cs (by simpa using h.1) (fun i v hv => h.2.1 i v (by simpa using hv)) (fun i v c hv hc => h.2.2 i v c (by simpa using hv) hc)

theorem RDcells.of_agg {C : Pay α} {cx : Cx α} {vs : Array Value} {cs : List (D α)} (h : RD C cx (.agg vs) (.agg cs)) : RDcells C cx vs.toList cs := by
  cases h with | agg _ _ hs h1 hr =>
  exact ⟨by simpa using hs, fun i v hv => h1 i v (by simpa using hv), fun i v c hv hc => hr i v c (by simpa using hv) hc⟩

theorem oneCell_of_isOne {C : Pay α} {cx : Cx α} {v : Value} {d : D α} (h : RD C cx v d) (hd : isOne d = true) : v.oneCell' = true := by
  cases h <;> simp_all [isOne, Value.oneCell']

theorem cells_one {v : Value} (h : v.oneCell' = true) : v.cells = #[v] := by
  cases v <;> simp_all [Value.oneCell', Value.cells]

theorem RDcells.of_good {C : Pay α} {cx : Cx α} {v : Value} {d : D α} (h : RD C cx v d) (hd : fillD.isGood d = true) : RDcells C cx v.cells.toList (cellsD d) := by
  by_cases ha : ∃ cs, d = .agg cs
  · obtain ⟨cs, rfl⟩ := ha
    have h' := h
    cases h with | agg vs _ hs h1 hr =>
    exact RDcells.of_agg h'
  · have h1 : isOne d = true := by cases d <;> simp_all [isOne, fillD.isGood]
    have h2 := oneCell_of_isOne h h1
    rw [cells_one h2]
    have h3 : cellsD d = [d] := by cases d <;> simp_all [cellsD]
    rw [h3]
    refine ⟨rfl, fun i v' hv => ?_, fun i v' c hv hc => ?_⟩
    · cases i <;> simp at hv
      subst hv; exact h2
    · cases i <;> simp at hv hc
      subst hv hc; exact h

/-- cells over cells, of values -/
def overV : List Value → Nat → List Value → List Value
  | vs, _, [] => vs
  | vs, i, x :: r => overV (vs.set i x) (i + 1) r

theorem setT_get (tm : List (D α)) (i k : Nat) (x : D α) : (setT tm i x)[k]? = if i = k ∧ k < tm.length then some x else tm[k]? := by
  induction tm generalizing i k with
  | nil => simp [setT]
  | cons d r ih =>
    cases i with
    | zero => cases k <;> simp [setT]
    | succ i => cases k <;> simp [setT, ih]

theorem setT_eq (tm : List (D α)) (i : Nat) (x : D α) : setT tm i x = tm.set i x := by
  induction tm generalizing i with
  | nil => rfl
  | cons d r ih => cases i <;> simp [setT, ih]

theorem RDcells.set {C : Pay α} {cx : Cx α} {vs : List Value} {cs : List (D α)} (h : RDcells C cx vs cs) (i : Nat) {v : Value} {d : D α} (hv : RD C cx v d) (h1 : v.oneCell' = true) :
    RDcells C cx (vs.set i v) (setT cs i d) := by
  rw [setT_eq]
  refine ⟨by simp [h.1], fun k u hu => ?_, fun k u c hu hc => ?_⟩
  · by_cases hik : i = k
    · subst hik
      rw [List.getElem?_set_self'] at hu
      obtain ⟨_, _, rfl⟩ := Option.map_eq_some_iff.1 hu
      exact h1
    · rw [List.getElem?_set_ne hik] at hu
      exact h.2.1 k u hu
  · by_cases hik : i = k
    · subst hik
      rw [List.getElem?_set_self'] at hu hc
      obtain ⟨_, _, rfl⟩ := Option.map_eq_some_iff.1 hu
      obtain ⟨_, _, rfl⟩ := Option.map_eq_some_iff.1 hc
      exact hv
    · rw [List.getElem?_set_ne hik] at hu hc
      exact h.2.2 k u c hu hc

theorem RDcells.over {C : Pay α} {cx : Cx α} : ∀ (us : List Value) (ds : List (D α)) (vs : List Value) (cs : List (D α)) (i : Nat), RDcells C cx vs cs → RDcells C cx us ds →
    RDcells C cx (overV vs i us) (overL cs i ds)
  | [], [], vs, cs, i, h, _ => h
  | u :: us, d :: ds, vs, cs, i, h, hu => by
    have h0 : RD C cx u d := hu.2.2 0 u d rfl rfl
    have h1 : u.oneCell' = true := hu.2.1 0 u rfl
    simp only [overV, overL]
    exact RDcells.over us ds _ _ (i + 1) (h.set i h0 h1) ⟨by simpa using hu.1, fun k v hv => hu.2.1 (k + 1) v (by simpa using hv), fun k v c hv hc => hu.2.2 (k + 1) v c (by simpa using hv) (by simpa using hc)⟩
  | [], _ :: _, _, _, _, _, hu => by simp [RDcells] at hu
  | _ :: _, [], _, _, _, _, hu => by simp [RDcells] at hu

theorem overV_append (us : List Value) : ∀ (vs : List Value) (i : Nat), i + us.length ≤ vs.length → overV vs i us = vs.take i ++ us ++ vs.drop (i + us.length) := by
  induction us with
  | nil => intro vs i _; simp [overV]
  | cons u us ih =>
    intro vs i h
    simp only [List.length_cons] at h
    rw [overV, ih _ _ (by simp; omega)]
    have h1 : (vs.set i u).take (i + 1) = vs.take i ++ [u] := by
      rw [List.take_add_one, List.take_set_of_le (Nat.le_refl _)]
      simp [List.getElem?_set]
      omega
    have h2 : (vs.set i u).drop (i + 1 + us.length) = vs.drop (i + (us.length + 1)) := by
      rw [List.drop_set_of_lt (by omega)]
      congr 1; omega
    rw [h1, h2]
    simp

theorem fold_overV (us : List Value) : ∀ (vs : Array Value) (off k : Nat), ((us.zipIdx k).foldl (fun (cs : Array Value) (x : Value × Nat) => cs.setIfInBounds (off + x.2) x.1) vs).toList = overV vs.toList (off + k) us := by
  induction us with
  | nil => intro vs off k; simp [overV]
  | cons u us ih =>
    intro vs off k
    simp only [List.zipIdx_cons, List.foldl_cons, overV]
    rw [ih]
    simp [Nat.add_assoc]

theorem fold_overV' (us : Array Value) (vs : Array Value) (off : Nat) : (us.zipIdx.foldl (fun (cs : Array Value) (x : Value × Nat) => cs.setIfInBounds (off + x.2) x.1) vs).toList = overV vs.toList off us.toList := by
  rw [← Array.foldl_toList]
  have := fold_overV us.toList vs off 0
  simpa using this

section
variable {C : Pay α} {cx : Cx α}

/-- Parts laid into cells. -/
theorem fillD_sound {place : Nat → Option (Nat × Nat)} : ∀ (ps : List (Nat × D α)) (qs : List (Nat × Value)) (cs cs' : List (D α)) (vs : Array Value), qs.length = ps.length →
    (∀ (i : Nat) p q, ps[i]? = some p → qs[i]? = some q → q.1 = p.1 ∧ RD C cx q.2 p.2) → RDcells C cx vs.toList cs → fillD place cs ps = some cs' →
    ∃ vs', Instr.fill place vs qs = some vs' ∧ RDcells C cx vs'.toList cs'
  | [], [], cs, cs', vs, _, _, h, hf => by
    simp only [fillD, Option.some.injEq] at hf
    subst hf
    exact ⟨vs, rfl, h⟩
  | (i, d) :: ps, (j, v) :: qs, cs, cs', vs, hl, hr, h, hf => by
    obtain ⟨hij, hd⟩ := hr 0 (i, d) (j, v) rfl rfl
    simp only at hij hd
    subst hij
    simp only [fillD] at hf
    split at hf
    · simp at hf
    · rename_i off size hp
      cases hg : (fillD.isGood d && Nat.beq (cellsD d).length size && Nat.ble (off + size) cs.length) with
      | false => simp [hg] at hf
      | true =>
      simp only [hg, cond_true] at hf
      simp only [Bool.and_eq_true] at hg
      obtain ⟨⟨hg1, hg2⟩, hg3⟩ := hg
      have hg2 := Nat.eq_of_beq_eq_true hg2
      have hg3 := Nat.le_of_ble_eq_true hg3
      have hc := RDcells.of_good hd hg1
      have hsz : v.cells.size = size := by have := hc.1; simp at this; omega
      have hvs : vs.size = cs.length := by simpa using h.1
      have hov := RDcells.over _ _ _ _ off h hc
      rw [← fold_overV'] at hov
      obtain ⟨vs', h1, h2⟩ := fillD_sound ps qs _ cs' _ (by simpa using hl) (fun k p q hp hq => hr (k + 1) p q (by simpa using hp) (by simpa using hq)) hov hf
      refine ⟨vs', ?_, h2⟩
      simp only [Instr.fill, hp]
      rw [if_neg (by simp; omega)]
      exact h1
  | [], _ :: _, _, _, _, hl, _, _, _ => by simp at hl
  | _ :: _, [], _, _, _, hl, _, _, _ => by simp at hl

theorem run_zero {P : Program} (w : World) {t : TypeId} {z : Value} (h : (P.info? t).bind (·.zero) = some z) : (zeroValue t).run P w = .ok z w := by
  cases hi : P.info? t with
  | none => simp [hi] at h
  | some i => simp only [hi, Option.bind_some] at h; simp [zeroValue, typeInfo, hi, h]

theorem zeroD_some {P : Program} {t : TypeId} {d : D α} (h : zeroD P t = some d) : ∃ z, (P.info? t).bind (·.zero) = some z ∧ d = ofV z := by
  unfold zeroD at h
  split at h
  · rename_i v hv; simp only [Option.some.injEq] at h; exact ⟨v, hv, h.symm⟩
  · simp at h

theorem buildD_sound (P : Program) (w : World) (t : TypeId) (ps : List (Nat × D α)) (qs : Array (Nat × Value)) (hl : qs.size = ps.length)
    (hr : ∀ (i : Nat) p q, ps[i]? = some p → qs[i]? = some q → q.1 = p.1 ∧ RD C cx q.2 p.2) (r : Res α) (hb : buildD P t ps = r) (hok : r.ok = true) :
    ∃ v, (Instr.build t qs).run P w = .ok v w ∧ RD C cx v r.d ∧ r.ch = none := by
  have hr' : ∀ (i : Nat) p q, ps[i]? = some p → qs.toList[i]? = some q → q.1 = p.1 ∧ RD C cx q.2 p.2 := fun i p q hp hq => hr i p q hp (by simpa using hq)
  unfold buildD at hb
  split at hb
  · rename_i z fs hz hu
    obtain ⟨zv, hzv, hze⟩ := zeroD_some hz
    have hzr : RD C cx zv (.agg z) := by rw [hze]; exact ofV_sound C cx zv
    split at hb
    · rename_i cs hf
      subst hb
      have hzr' := hzr
      cases hzr with | agg zvs _ _ _ _ =>
      have hall : fs.toList.all (fun f => (szO P f.type).isSome) = true := hok
      have hplaces : (fs.mapM (fun f => do pure (f.offset, ← sizeOf f.type)) : Sem (Array (Nat × Nat))).run P w = .ok (fs.map fun f => (f.offset, (szO P f.type).getD 0)) w := by
        rw [Array.mapM_eq_mapM_toList]
        have : ∀ l : List Field, l.all (fun f => (szO P f.type).isSome) = true → (l.mapM (fun f => do pure (f.offset, ← sizeOf f.type)) : Sem (List (Nat × Nat))).run P w = .ok (l.map fun f => (f.offset, (szO P f.type).getD 0)) w := by
          intro l
          induction l with
          | nil => intro _; simp
          | cons f l ih =>
            intro hl
            simp only [List.all_cons, Bool.and_eq_true] at hl
            obtain ⟨n, hn⟩ := Option.isSome_iff_exists.1 hl.1
            have ih := ih hl.2
            simp only [List.mapM_cons, Sem.run_bind, run_sizeOf' P w hn, Result.andThen_ok, Sem.run_pure, ih, List.map_cons, hn, Option.getD_some]
        simp only [Sem.run_map, this fs.toList hall, Result.andThen_ok]
        congr 1
        exact Array.ext' (by simp)
      obtain ⟨vs', h1, h2⟩ := fillD_sound (place := fun i => match fs.toList[i]? with
        | some f => match szO P f.type with
          | some n => some (f.offset, n)
          | none => none
        | none => none) ps qs.toList z cs zvs (by simpa using hl) hr' (RDcells.of_agg hzr') hf
      refine ⟨.agg vs', ?_, RDcells.agg h2, rfl⟩
      have hplace : (fun (i : Nat) => (fs.map fun (f : Field) => (f.offset, (szO P f.type).getD 0))[i]?) = (fun (i : Nat) => match fs.toList[i]? with
        | some f => match szO P f.type with
          | some n => some (f.offset, n)
          | none => none
        | none => none) := by
        funext i
        simp only [Array.getElem?_map, Array.getElem?_toList]
        cases hfi : fs[i]? with
        | none => rfl
        | some f =>
          have hm : f ∈ fs.toList := by simpa using Array.mem_of_getElem? hfi
          obtain ⟨n, hn⟩ := Option.isSome_iff_exists.1 (List.all_eq_true.1 hall f hm)
          simp [hn]
      simp only [Instr.build, Sem.run_bind, run_zero w hzv, Result.andThen_ok, Value.cells, run_underlying hu, hplaces, hplace, h1, Sem.run_pure]
    · subst hb; simp [Res.no] at hok
  · rename_i z n e hz hu
    obtain ⟨zv, hzv, hze⟩ := zeroD_some hz
    have hzr : RD C cx zv (.agg z) := by rw [hze]; exact ofV_sound C cx zv
    split at hb
    · rename_i m hm
      split at hb
      · rename_i cs hf
        subst hb
        have hzr' := hzr
        cases hzr with | agg zvs _ _ _ _ =>
        obtain ⟨vs', h1, h2⟩ := fillD_sound (place := fun i => some (i * m, m)) ps qs.toList z cs zvs (by simpa using hl) hr' (RDcells.of_agg hzr') hf
        refine ⟨.agg vs', ?_, RDcells.agg h2, rfl⟩
        simp only [Instr.build, Sem.run_bind, run_zero w hzv, Result.andThen_ok, Value.cells, run_underlying hu, run_sizeOf' P w hm, h1, Sem.run_pure]
      · subst hb; simp [Res.no] at hok
    · subst hb; simp [Res.no] at hok
  · subst hb; simp [Res.no] at hok

end
end Go.Eng

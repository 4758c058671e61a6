/-
  THE ENGINE, PART O: LITERALS OF SLICES; APPEND; ONE OPERATION.
-/
import Derived.Test.YtlfohmdclcdejaaDoorEngN
namespace Go.Eng
open Go.RowKit

variable {α : Type}

section
variable {X : Ctx α} (hX : XOk X) {g : Gh} {tm : List (D α)} {hs : Obs α} {a : Act} {w : World} (hS : Sim X g tm hs a w)

include hX hS in
theorem arr_row {o b : Nat} {fz : Bool} {p : α} (hl : look hs o = some (.arr fz p)) (hrho : g.rho o = some b) : RowAt X.C (cxOf g hs w) b 0 p := by
  have hob := hS.obs o _ hl
  rw [hrho] at hob
  obtain ⟨cells, T, hh, hsz, hbg, hc1, hcr⟩ := hob
  intro i j d hi hd
  have hj : j < X.C.esz p := by
    rw [← hX.pay.elen p i hi]
    rcases Nat.lt_or_ge j (X.C.elem p i).length with h | h
    · exact h
    · simp [List.getElem?_eq_none h] at hd
  have hlt : i * X.C.esz p + j < cells.size := by
    have : (i + 1) * X.C.esz p ≤ X.C.len p * X.C.esz p := Nat.mul_le_mul_right _ hi
    rw [Nat.add_mul, Nat.one_mul] at this; omega
  have hv : cells[i * X.C.esz p + j]? = some cells[i * X.C.esz p + j] := by simp [hlt]
  refine ⟨_, ?_, hc1 _ _ hv, hcr i j _ d hi hv hd⟩
  show w.cell? _ = _
  rw [Nat.zero_add, cell_at (w := w) hh]; exact hv

theorem pl_row {C : Pay α} {cx : Cx α} {ad : Option Addr} {n c : Nat} {p : α} {k : SK} (h : RD C cx (.slice ad n c) (.pl p k)) : Src C cx (.slice ad n c) p := by
  cases h with
  | pl0 _ _ _ _ hl hk => exact ⟨ad, c, by rw [hl], fun h => by omega⟩
  | pl b off _ _ _ _ vs hn hc hb hk hav hcell h1 hrd =>
    subst hn
    exact ⟨_, c, rfl, fun _ => ⟨b, off, rfl, fun i j d hi hd => ⟨vs i j, hcell i j d hi hd, h1 i j d hi hd, hrd i j d hi hd⟩⟩⟩

include hX hS in
theorem srcOf_sound {y : D α} {vy : Value} {p0 q : α} (h0 : X.C.len p0 = 0) (hy : RD X.C (cxOf g hs w) vy y) (h : srcOf X.C hs p0 y = some q) : Src X.C (cxOf g hs w) vy q := by
  unfold srcOf at h
  split at h
  · simp only [Option.some.injEq] at h
    subst h
    cases hy
    exact ⟨none, 0, by rw [h0], fun h => by omega⟩
  · simp only [Option.some.injEq] at h
    subst h
    obtain ⟨ad, n, c, rfl⟩ : ∃ ad n c, vy = .slice ad n c := by cases hy <;> exact ⟨_, _, _, rfl⟩
    exact pl_row hy
  · rename_i o
    split at h
    · rename_i fz p hl
      simp only [Option.some.injEq] at h
      subst h
      have har := arr_of (g := g) (w := w) hl
      cases hy with
      | arrO _ b p' n c ho hn hc hz =>
        rw [har] at ho
        simp only [Option.some.injEq, Prod.mk.injEq] at ho
        obtain ⟨hrho, rfl⟩ := ho
        subst hn
        exact ⟨_, c, rfl, fun _ => ⟨b, 0, rfl, arr_row hX hS hl hrho⟩⟩
      | arrN _ p' a' ho hn =>
        rw [har] at ho
        simp only [Option.some.injEq, Prod.mk.injEq] at ho
        obtain ⟨hrho, rfl⟩ := ho
        exact ⟨a', 0, by rw [hn], fun h => by omega⟩
    · simp at h
  · simp at h

include hX hS in
theorem appendD_sound (dst : Nat) (t t2 ty : TypeId) (x y : D α) (vx vy : Value) (hx : RD X.C (cxOf g hs w) vx x) (hy : RD X.C (cxOf g hs w) vy y) (r : Res α) (hr : appendD X hs tm dst t t2 x y = r) (hok : r.ok = true) :
    ∃ v w', (Builtin.append_ #[t, t2] ty #[vx, vy]).run X.P w = .ok v w' ∧ OpOut X g tm hs a r v w' := by
  have hno : (Res.no : Res α).ok = true → False := by simp [Res.no]
  unfold appendD at hr
  split at hr
  · rename_i e ht
    cases htt : Nat.beq t t2 with
    | false => simp only [htt, cond_false] at hr; subst hr; exact (hno hok).elim
    | true =>
    obtain rfl := Nat.eq_of_beq_eq_true htt
    simp only [htt, cond_true] at hr
    split at hr
    · rename_i n by_ p0 hn hby hemp
      have h0 := hX.pay.emp t p0 hemp
      split at hr
      · rename_i q hq
        have hsrc := srcOf_sound hX hS h0 hy hq
        split at hr
        · cases hx
          exact appendTo_sound hX hS dst dst n by_ t ty e _ p0 q _ vy (.none none rfl h0) hsrc ht hn hby (fun h => h) r hr hok
        · rename_i p
          have hz : ∀ (b : Bool), (zsz X.P e && b) = true → zsz X.P e = true := by intro b h; simp only [Bool.and_eq_true] at h; exact h.1
          have hbase : Base X g hs w dst vx p (X.C.len q) := by
            have hlens : zeroLen (X.C.len p) = true ∨ ¬ zeroLen (X.C.len q) = true := by
              have hr' := hr
              unfold appendTo at hr'
              split at hr'
              · subst hr'
                simp only [Bool.and_eq_true, Bool.or_eq_true, Bool.not_eq_true'] at hok
                rcases hok.1.1.1.1.2 with h | h
                · exact .inl h
                · exact .inr (by rw [h]; simp)
              · subst hr'; exact (hno hok).elim
            cases hx with
            | pl0 ad c _ _ hl hk =>
              simp only [okK] at hk
              subst hk
              exact .none ad rfl hl
            | pl b off nn c _ _ vs hnn hc hbg hk hav hcell h1 hrd =>
              simp only [okK] at hk
              subst hk hnn
              by_cases hp0 : X.C.len p = 0
              · rw [hp0]; exact .none _ rfl hp0
              · refine .full b off rfl (fun i j d hi hd => ⟨vs i j, hcell i j d hi hd, h1 i j d hi hd, hrd i j d hi hd⟩) ?_
                rcases hlens with h | h
                · exact absurd (zeroLen_of h) hp0
                · rcases Nat.eq_zero_or_pos (X.C.len q) with h' | h'
                  · exact absurd (by rw [h']; rfl) h
                  · exact h'
          exact appendTo_sound hX hS dst dst n by_ t ty e _ p q vx vy hbase hsrc ht hn hby (hz _) r hr hok
        · rename_i o
          split at hr
          · rename_i p hl
            have har := arr_of (g := g) (w := w) hl
            have hbase : Base X g hs w o vx p (X.C.len q) := by
              cases hx with
              | arrO _ b p' nn c ho hnn hc hz =>
                rw [har] at ho
                simp only [Option.some.injEq, Prod.mk.injEq] at ho
                obtain ⟨hrho, rfl⟩ := ho
                subst hnn
                have hob := hS.obs o _ hl
                rw [hrho] at hob
                obtain ⟨cells, T, hh, _⟩ := hob
                obtain ⟨cells', T', fz', hh', hsz'⟩ := hz
                have hh0 : w.heap[b]? = some (.cells cells T (0, 0)) := hh
                have hh1 : w.heap[b]? = some (.cells cells' T' fz') := hh'
                rw [hh0] at hh1
                simp only [Option.some.injEq, Obj.cells.injEq] at hh1
                obtain ⟨rfl, rfl, rfl⟩ := hh1
                exact .own b c cells T hl hrho rfl hc hh0 hsz'
              | arrN _ p' a' ho hnn =>
                rw [har] at ho
                simp only [Option.some.injEq, Prod.mk.injEq] at ho
                obtain ⟨hrho, rfl⟩ := ho
                exact .none a' rfl hnn
            exact appendTo_sound hX hS dst o n by_ t ty e _ p q vx vy hbase hsrc ht hn hby (fun h => h) r hr hok
          · subst hr; exact (hno hok).elim
        · subst hr; exact (hno hok).elim
      · subst hr; exact (hno hok).elim
    · subst hr; exact (hno hok).elim
  · subst hr; exact (hno hok).elim

def undef' : Value := .bool false

theorem rowsOf_len (n : Nat) : ∀ (ps : List (Nat × D α)) (i : Nat) (rows : List (List (D α))), rowsOf n i ps = some rows → ∀ r ∈ rows, r.length = n
  | [], i, rows, h, r, hr => by simp only [rowsOf, Option.some.injEq] at h; subst h; simp at hr
  | (j, d) :: ps, i, rows, h, r, hr => by
    simp only [rowsOf] at h
    cases hg : (Nat.beq i j && fillD.isGood d && Nat.beq (cellsD d).length n) with
    | false => simp [hg] at h
    | true =>
    simp only [hg, cond_true] at h
    simp only [Bool.and_eq_true] at hg
    split at h
    · rename_i l hl
      simp only [Option.some.injEq] at h
      subst h
      rcases List.mem_cons.1 hr with rfl | hr
      · exact Nat.eq_of_beq_eq_true hg.2
      · exact rowsOf_len n ps (i + 1) l hl r hr
    · simp at h

theorem zip_get {ps : List (Nat × D α)} {ds : List (D α)} (_hl : ds.length = ps.length) (k : Nat) : ((ps.zip ds).map fun x => (x.1.1, x.2))[k]? = match ps[k]?, ds[k]? with
    | some p, some d => some (p.1, d)
    | _, _ => none := by
  rw [List.getElem?_map, List.zip_eq_zipWith, List.getElem?_zipWith]
  cases ps[k]? <;> cases ds[k]? <;> rfl

include hX hS in
theorem buildSliceD_sound (t : TypeId) (len : Nat) (ps : List (Nat × D α)) (qs : Array (Nat × Value)) (hl : qs.size = ps.length)
    (hr : ∀ (i : Nat) p q, ps[i]? = some p → qs[i]? = some q → q.1 = p.1 ∧ RD X.C (cxOf g hs w) q.2 p.2) (r : Res α) (hb : buildSliceD X hs tm t len ps = r) (hok : r.ok = true) :
    ∃ v w', (Instr.buildSlice t len qs).run X.P w = .ok v w' ∧ OpOut X g tm hs a r v w' := by
  have hno : (Res.no : Res α).ok = true → False := by simp [Res.no]
  unfold buildSliceD at hb
  split at hb
  · rename_i e ht
    split at hb
    · rename_i n by_ p0 ds ns hn hby hemp hlend
      split at hb
      · rename_i rows hrows
        split at hb
        · rename_i p hp
          subst hb
          simp only [Bool.and_eq_true] at hok
          obtain ⟨⟨⟨⟨⟨h1, h2⟩, h3⟩, h4⟩, h5⟩, h6⟩ := hok
          have h1 := Nat.eq_of_beq_eq_true h1
          have h2 := Nat.eq_of_beq_eq_true h2
          have h3 := Nat.eq_of_beq_eq_true h3
          have h4 := Nat.le_of_ble_eq_true h4
          have h5 := Nat.le_of_ble_eq_true h5
          obtain ⟨i, zv, hi, his, hizv, hzs, hz1⟩ := info_of hn h6
          obtain ⟨hlen, hget⟩ := lendAll_sound hX hS (avBut g hs w ns) avBut_av (ps.map (·.2)) ds ns hlend avBut_ns
          simp only [List.length_map] at hlen
          have h00 := hX.pay.emp t p0 hemp
          obtain ⟨s1, s2, s3, s4, s5⟩ := snocs_spec hX.pay rows p0 p hp
          rw [h00, Nat.zero_add] at s1
          -- the cells before
          obtain ⟨Z, hZ⟩ : ∃ Z : Array Value, Z = (if len * n = 0 then #[] else zv.cells) := ⟨_, rfl⟩
          obtain ⟨A, hA⟩ : ∃ A : Array Value, A = (Array.range (len * n)).map (fun k => Z[k % Z.size]!) := ⟨_, rfl⟩
          have hAs : A.size = len * n := by rw [hA]; simp
          have hA1 : ∀ u ∈ A, u.oneCell' = true := by
            intro u hu
            rw [hA] at hu
            obtain ⟨k, hk, rfl⟩ := Array.mem_map.1 hu
            have hk' : k < len * n := by simpa using hk
            have hpos : ¬ len * n = 0 := by omega
            rw [hZ, if_neg hpos]
            have hsz0 : 0 < zv.cells.size := by
              rw [hzs]; rcases Nat.eq_zero_or_pos n with h | h
              · rw [h] at hpos; simp at hpos
              · exact h
            have hlt : k % zv.cells.size < zv.cells.size := Nat.mod_lt _ hsz0
            rw [getElem!_pos zv.cells _ hlt]
            exact hz1 _ (Array.getElem_mem hlt)
          have hpl : ((ps.zip ds).map fun x => (x.1.1, x.2)).length = ps.length := by simp [hlen]
          have hrel : ∀ (k : Nat) p q, ((ps.zip ds).map fun x => (x.1.1, x.2))[k]? = some p → qs.toList[k]? = some q → q.1 = p.1 ∧ RD X.C (cx0 w (avBut g hs w ns)) q.2 p.2 := by
            intro k p q hp hq
            rw [zip_get hlen] at hp
            split at hp
            · rename_i p1 d1 hp1 hd1
              simp only [Option.some.injEq] at hp
              subst hp
              obtain ⟨ha, hbb⟩ := hr k p1 q hp1 (by simpa using hq)
              exact ⟨ha, hget k q.2 p1.2 d1 (by simp [hp1]) hd1 hbb⟩
            · simp at hp
          have hcount : ps.length = len := by
            have := (rows_fill (C := X.C) (cx := cx0 w (avBut g hs w ns)) n _ qs.toList 0 rows (Array.replicate (ps.length * n) undef' ) (by rw [hpl]; simpa using hl) hrel hrows (by rw [hpl]; simp) (by simp [undef', Value.oneCell'])).1
            rw [hpl] at this; omega
          obtain ⟨hrl, vs', hfill, hvs, hv1, _, hv6⟩ := rows_fill (C := X.C) (cx := cx0 w (avBut g hs w ns)) n _ qs.toList 0 rows A (by rw [hpl]; simpa using hl) hrel hrows (by rw [hpl, hcount, hAs, Nat.zero_add]; exact Nat.le_refl _) hA1
          have hrun : (Instr.buildSlice t len qs).run X.P w = .ok (.slice (some ⟨w.heap.size, 0, none⟩) len len) (w.alloc (.cells vs' e)) := by
            have hzr : (zeroValue e).run X.P w = .ok zv w := run_zero w (by simp [hi, hizv])
            have hgt : ¬ (len * n > 2 ^ 24) := by omega
            by_cases h0 : len * n = 0
            · rw [if_pos h0] at hZ
              subst hZ
              have hA0 : A = #[] := Array.eq_empty_of_size_eq_zero (by omega)
              rw [hA0] at hfill
              have h24 : ¬ (0 > 2 ^ 24) := by decide
              simp only [Instr.buildSlice, Sem.run_bind, run_underlying ht, Result.andThen_ok, run_sizeOf' X.P w hn, h0, h24, if_false, Sem.run_pure, if_true]
              have hr0 : Array.range 0 = #[] := rfl
              simp [hr0, hfill, newRow]
            · rw [if_neg h0] at hZ
              subst hZ
              simp only [Instr.buildSlice, Sem.run_bind, run_underlying ht, Result.andThen_ok, run_sizeOf' X.P w hn, hgt, if_false, Sem.run_pure, h0, hzr]
              rw [← hA]
              simp [hfill, newRow]
          refine ⟨_, _, hrun, g.rho, ?_, ?_⟩
          · cases hni : isNil ns with
            | true => exact hS.grow hX.pay (below_alloc w _)
            | false => exact ((sim_freeze hX hS ns).1).grow hX.pay (below_alloc w _)
          · have hfr : ((bif isNil ns then none else some (tm, freeze hs ns) : Option (List (D α) × Obs α)).getD (tm, hs)).2 = freeze hs ns := by
              cases hni : isNil ns with
              | true => rw [isNil_eq hni]; rfl
              | false => rfl
            show RD X.C (cxOf g ((bif isNil ns then none else some (tm, freeze hs ns) : Option (List (D α) × Obs α)).getD (tm, hs)).2 (w.alloc (.cells vs' e))) _ (.pl p .full)
            rw [hfr]
            have hlenp : len = X.C.len p := by rw [s1]; omega
            have hel : ∀ (i j : Nat) d, i < len → (X.C.elem p i)[j]? = some d → ∃ u, vs'[i * X.C.esz p + j]? = some u ∧ RD X.C (cxOf g (freeze hs ns) (w.alloc (.cells vs' e))) u d := by
              intro i j d hi' hd
              have hj : j < X.C.esz p := by
                rw [← hX.pay.elen p i (by omega)]
                rcases Nat.lt_or_ge j (X.C.elem p i).length with h | h
                · exact h
                · simp [List.getElem?_eq_none h] at hd
              have hlt : i * X.C.esz p + j < vs'.size := by
                rw [hvs, hAs, h2]
                have : (i + 1) * X.C.esz p ≤ len * X.C.esz p := Nat.mul_le_mul_right _ hi'
                rw [Nat.add_mul, Nat.one_mul] at this; omega
              have hu : vs'[i * X.C.esz p + j]? = some vs'[i * X.C.esz p + j] := by simp [hlt]
              have hrow : rows[i]? = some (rows[i]'(by omega)) := by simp
              have hrowlen : (rows[i]'(by omega)).length = X.C.esz p := by
                have := rowsOf_len n _ _ _ hrows _ (List.getElem_mem (by omega : i < rows.length))
                omega
              have hjr : (rows[i]'(by omega))[j]? = some ((rows[i]'(by omega))[j]'(by omega)) := by simp
              refine ⟨_, hu, ?_⟩
              have h7 := hv6 i j _ _ vs'[i * X.C.esz p + j] hrow hjr (by rw [Nat.zero_add, h2]; exact hu)
              have h8 : Dle X.C _ d := s5 i j _ _ d hrow hjr (by rw [h00, Nat.zero_add]; exact hd)
              have h9 := h7.le h8
              have hcl := hX.pay.clo p i d (List.mem_of_getElem? hd)
              have h10 : RD X.C (cx0 (w.alloc (.cells vs' e)) (avBut g hs w ns)) vs'[i * X.C.esz p + j] d := by
                refine RD.closedTo hX.pay (cx := cx0 w (avBut g hs w ns)) (cx' := cx0 (w.alloc (.cells vs' e)) (avBut g hs w ns)) ⟨fun b ob _ hb => ?_, fun b ob _ h => h, fun _ _ h => by simp at h, fun _ _ _ h => by simp at h, fun b cells T fz hb => ?_⟩ hcl h9
                · show (w.alloc _).heap[b]? = _
                  exact (heap_alloc_old' w _ (lt_of_heap (w := w) hb)).trans hb
                · refine ⟨cells, T, fz, ?_, rfl⟩
                  show (w.alloc _).heap[b]? = _
                  exact (heap_alloc_old' w _ (lt_of_heap (w := w) hb)).trans hb
              exact RD.closedTo hX.pay (frozen_of_out hS) hcl h10
            refine .pl w.heap.size 0 len len p .full (fun i j => (vs'[i * X.C.esz p + j]?).getD undef) hlenp (Nat.le_refl _) (by rw [← h3]; exact h5) rfl ?_ (fun i j d hi' hd => ?_) (fun i j d hi' hd => ?_) (fun i j d hi' hd => ?_)
            · rintro (h | ⟨o, ob, hlo, _, hro⟩)
              · have := hS.av0 _ h; have := hS.below.size; omega
              · have := ((sim_freeze hX hS ns).1.own o ob _ hlo hro).2; omega
            · obtain ⟨u, hu, _⟩ := hel i j d hi' hd
              show (w.alloc _).cell? ⟨w.heap.size, _, none⟩ = _
              rw [Nat.zero_add, cell_at (heap_alloc_new' w _), hu]; rfl
            · obtain ⟨u, hu, _⟩ := hel i j d hi' hd
              rw [hu]; exact hv1 u (Array.mem_of_getElem? hu)
            · obtain ⟨u, hu, h⟩ := hel i j d hi' hd
              rw [hu]; exact h
        · subst hb; exact (hno hok).elim
      · subst hb; exact (hno hok).elim
    · subst hb; exact (hno hok).elim
  · subst hb; exact (hno hok).elim

end
end Go.Eng

/-
  THE ENGINE, PART H: WHAT IS HANDED OVER; LITERALS; CONVERSIONS.
-/
import Derived.Test.YtlfohmdclcdejaaDoorEngG
namespace Go.Eng
open Go.RowKit

variable {α : Type}

mutual
theorem RD_flat {C : Pay α} {cx cx' : Cx α} : ∀ (d : D α) (v : Value), flat d = true → RD C cx v d → RD C cx' v d
  | .bool _, _, _, h => by cases h; exact .bool _
  | .int _ _, _, _, h => by cases h with | int _ _ h => exact .int _ _ h
  | .str _, _, _, h => by cases h with | str _ _ h hl => exact .str _ _ h hl
  | .nilP, _, _, h => by cases h; exact .nilP
  | .nilS, _, _, h => by cases h; exact .nilS
  | .nilF, _, _, h => by cases h; exact .nilF
  | .nilI, _, _, h => by cases h; exact .nilI
  | .nilM, _, _, h => by cases h; exact .nilM
  | .lit _, _, _, h => by cases h; exact .lit _
  | .agg cs, _, hf, h => by
    cases h with | agg vs _ hs h1 hr =>
    exact .agg vs cs hs h1 fun i v c hv hc => RD_flatL cs (by simpa [flat] using hf) i v c hc (hr i v c hv hc)
  | .tup cs, _, hf, h => by
    cases h with | tup vs _ hs hr =>
    exact .tup vs cs hs fun i v c hv hc => RD_flatL cs (by simpa [flat] using hf) i v c hc (hr i v c hv hc)
  | .pl _ _, _, hf, _ | .arr _, _, hf, _ | .ptr _ _, _, hf, _ | .epr _ _ _, _, hf, _ | .ref _, _, hf, _ | .fn _ _, _, hf, _ | .ifc _ _, _, hf, _ | .gd _ _ _, _, hf, _ | .ow _ _, _, hf, _ | .ifa, _, hf, _ | .bad, _, hf, _ => by simp [flat] at hf
theorem RD_flatL {C : Pay α} {cx cx' : Cx α} : ∀ (cs : List (D α)), flatL cs = true → ∀ (i : Nat) v c, cs[i]? = some c → RD C cx v c → RD C cx' v c
  | [], _, _, _, _, h, _ => by simp at h
  | d :: r, hf, 0, v, c, hc, h => by
    simp only [flatL, Bool.and_eq_true] at hf
    simp only [List.getElem?_cons_zero, Option.some.injEq] at hc
    subst hc
    exact RD_flat _ v hf.1 h
  | d :: r, hf, i + 1, v, c, hc, h => by
    simp only [flatL, Bool.and_eq_true] at hf
    exact RD_flatL r hf.2 i v c (by simpa using hc) h
end

theorem closed_of_not {y : D α} (h1 : ∀ o, y = .arr o → False) (h2 : ∀ o k, y = .ptr o k → False) (h3 : ∀ o i k, y = .epr o i k → False) (h4 : ∀ cs, y = .agg cs → False) (h5 : ∀ cs, y = .tup cs → False)
    (h6 : ∀ cs, y = .ref cs → False) (h7 : ∀ f cs, y = .fn f cs → False) (h8 : ∀ t d, y = .ifc t d → False) (h9 : ∀ ks t d, y = .gd ks t d → False) (h10 : ∀ k d, y = .ow k d → False) : closed y = true := by
  cases y <;> first | rfl | (exfalso; solve | exact h1 _ rfl | exact h2 _ _ rfl | exact h3 _ _ _ rfl | exact h4 _ rfl | exact h5 _ rfl | exact h6 _ rfl | exact h7 _ _ rfl | exact h8 _ _ rfl | exact h9 _ _ _ rfl | exact h10 _ _ rfl)

section
variable {X : Ctx α} (hX : XOk X) {g : Gh} {tm : List (D α)} {hs : Obs α} {a : Act} {w : World} (hS : Sim X g tm hs a w)

/-- From the frame's sight to a callee's, or back to who called: names go, less is to be avoided. -/
theorem cxLe_out {C : Pay α} {g : Gh} {hs : Obs α} {w : World} {av' : Nat → Prop} (hav : ∀ b, av' b → (cxOf g hs w).av b) : CxLe C (fun _ => true) (cxOf g hs w) (cx0 w av' : Cx α) where
  cell := fun _ _ _ h => h
  av := fun b _ _ h h' => h (hav b h')
  bx := fun _ _ h => by simp at h
  ar := fun _ _ _ h => by simp at h
  size := fun _ cells T fz h => ⟨cells, T, fz, h, rfl⟩

include hX hS in
theorem lend_sound (av' : Nat → Prop) (hav : ∀ b, av' b → (cxOf g hs w).av b) : ∀ (n : Nat),
    (∀ (d : D α) (v : Value) d' ns, RD X.C (cxOf g hs w) v d → lend X.C hs n d = some (d', ns) → (∀ o ob b, o ∈ ns → look hs o = some ob → g.rho o = some b → ¬ av' b) → RD X.C (cx0 w av') v d') ∧
    (∀ (l : List (D α)) l' ns, lend.lendL X.C hs n l = some (l', ns) → (∀ o ob b, o ∈ ns → look hs o = some ob → g.rho o = some b → ¬ av' b) → l'.length = l.length ∧
      ∀ (i : Nat) v c c', l[i]? = some c → l'[i]? = some c' → RD X.C (cxOf g hs w) v c → RD X.C (cx0 w av') v c') := by
  intro n
  induction n with
  | zero =>
    refine ⟨fun d v d' ns _ h => by simp [lend] at h, fun l l' ns h _ => ?_⟩
    cases l with
    | nil => simp only [lend.lendL, Option.some.injEq, Prod.mk.injEq] at h; obtain ⟨rfl, rfl⟩ := h; exact ⟨rfl, fun i v c c' hc => by simp at hc⟩
    | cons d r => simp [lend.lendL] at h
  | succ n ih =>
    obtain ⟨ih1, ih2⟩ := ih
    refine ⟨fun d v d' ns hd h hns => ?_, fun l l' ns h hns => ?_⟩
    · unfold lend at h
      split at h
      · omega
      · rename_i o heq
        split at h
        · rename_i fz p hl
          simp only [Option.some.injEq, Prod.mk.injEq] at h
          obtain ⟨rfl, rfl⟩ := h
          have har := arr_of (g := g) (w := w) hl
          have hob := hS.obs o _ hl
          cases hd with
          | arrO _ b p' n' c ho hn hc hz =>
            rw [har] at ho
            simp only [Option.some.injEq, Prod.mk.injEq] at ho
            obtain ⟨hrho, rfl⟩ := ho
            rw [hrho] at hob
            obtain ⟨cells, T, hh, hsz, hbg, h1, hr⟩ := hob
            subst hn
            have hlt : ∀ i j d, i < X.C.len p → (X.C.elem p i)[j]? = some d → i * X.C.esz p + j < cells.size := by
              intro i j d hi hj
              have hj' : j < X.C.esz p := by
                rw [← hX.pay.elen p i hi]; rcases Nat.lt_or_ge j (X.C.elem p i).length with h | h
                · exact h
                · simp [List.getElem?_eq_none h] at hj
              have : (i + 1) * X.C.esz p ≤ X.C.len p * X.C.esz p := Nat.mul_le_mul_right _ hi
              rw [Nat.add_mul] at this; omega
            refine .pl b 0 _ c p .any (fun i j => (cells[i * X.C.esz p + j]?).getD undef) rfl hc hbg trivial (hns o _ b List.mem_cons_self hl hrho) (fun i j d hi hj => ?_) (fun i j d hi hj => ?_) (fun i j d hi hj => ?_)
            · have := hlt i j d hi hj
              show w.cell? _ = _
              rw [Nat.zero_add, cell_at (w := w) hh]
              simp [this]
            · have := hlt i j d hi hj
              simp only [this, getElem?_pos, Option.getD_some]
              exact h1 _ _ (Array.getElem?_eq_getElem this)
            · have := hlt i j d hi hj
              simp only [this, getElem?_pos, Option.getD_some]
              exact RD.closedTo hX.pay (cxLe_out hav) (hX.pay.clo p i d (List.mem_of_getElem? hj)) (hr i j _ d hi (Array.getElem?_eq_getElem this) hj)
          | arrN _ p' a' ho hn =>
            rw [har] at ho
            simp only [Option.some.injEq, Prod.mk.injEq] at ho
            obtain ⟨hrho, rfl⟩ := ho
            exact .pl0 _ _ _ _ hn trivial
        · simp at h
      · rename_i n' o off heq
        obtain rfl : n = n' := by simpa using heq
        split at h
        · rename_i fz cs hl
          split at h
          · rename_i l ms hll
            simp only [Option.some.injEq, Prod.mk.injEq] at h
            obtain ⟨rfl, rfl⟩ := h
            obtain ⟨b, o', hv, hat⟩ := cellsAt_sound hX hS hd (show cellsAt X.C hs (.ptr o off) = some (cs, off) by simp [cellsAt, hl])
            subst hv
            obtain ⟨hlen, hget⟩ := ih2 _ _ _ hll (fun o' x' b' ho' => hns o' x' b' (List.mem_cons_of_mem _ ho'))
            have hex : ∀ (i : Nat) c', l[i]? = some c' → ∃ u, w.cell? ⟨b, o' + i, none⟩ = some u ∧ u.oneCell' = true ∧ RD X.C (cx0 w av') u c' := by
              intro i c' hc'
              have hi : i < (cs.drop off).length := by
                rw [← hlen]; rcases Nat.lt_or_ge i l.length with h | h
                · exact h
                · simp [List.getElem?_eq_none h] at hc'
              have hc : (cs.drop off)[i]? = some ((cs.drop off)[i]) := by simp
              obtain ⟨u, h1, h2, h3⟩ := hat i _ (by rw [← List.getElem?_drop]; exact hc)
              exact ⟨u, h1, h2, hget i u _ c' hc hc' h3⟩
            have hbo : g.rho o = some b := by
              cases hd with | ptr _ _ _ ho => simpa [cxOf, hl] using ho
            refine .ref b o' l (fun i => (w.cell? ⟨b, o' + i, none⟩).getD undef) (fun _ => hns o _ b List.mem_cons_self hl hbo) (fun i c hc => ?_) (fun i c hc => ?_) (fun i c hc => ?_)
            all_goals obtain ⟨u, h1, h2, h3⟩ := hex i c hc
            · show w.cell? _ = _; rw [h1]; rfl
            · rw [h1]; exact h2
            · rw [h1]; exact h3
          · simp at h
        · simp at h
      · rename_i o i off heq
        split at h
        · rename_i fz p hl
          simp only [Option.some.injEq, Prod.mk.injEq] at h
          obtain ⟨rfl, rfl⟩ := h
          obtain ⟨b, o', hv, hat⟩ := cellsAt_sound hX hS hd (show cellsAt X.C hs (.epr o i off) = some (X.C.elem p i, off) by simp [cellsAt, hl])
          subst hv
          have hbo : g.rho o = some b ∧ i < X.C.len p := by
            cases hd with | epr _ _ _ _ p' ho hi =>
            rw [arr_of (g := g) (w := w) hl] at ho
            simp only [Option.some.injEq, Prod.mk.injEq] at ho
            obtain ⟨h1, rfl⟩ := ho
            exact ⟨h1, hi⟩
          refine .ref b o' _ (fun i => (w.cell? ⟨b, o' + i, none⟩).getD undef) (fun _ => hns o _ b List.mem_cons_self hl hbo.1) (fun j c hc => ?_) (fun j c hc => ?_) (fun j c hc => ?_)
          all_goals
            rw [List.getElem?_drop] at hc
            obtain ⟨u, h1, h2, h3⟩ := hat j c hc
            have h1 : w.cell? _ = some u := h1
          · show w.cell? _ = _; rw [h1]; rfl
          · rw [h1]; exact h2
          · rw [h1]; exact RD.closedTo hX.pay (cxLe_out hav) (hX.pay.clo p i c (List.mem_of_getElem? hc)) h3
        · simp at h
      · rename_i n' cs heq
        obtain rfl : n = n' := by simpa using heq
        split at h
        · rename_i l ms hll
          simp only [Option.some.injEq, Prod.mk.injEq] at h
          obtain ⟨rfl, rfl⟩ := h
          obtain ⟨hlen, hget⟩ := ih2 _ _ _ hll hns
          cases hd with | agg vs _ hs' h1 hr =>
          refine .agg vs l (by rw [hlen]; exact hs') h1 fun i v c hv hc => ?_
          have hi : i < cs.length := by rw [← hs']; rcases Nat.lt_or_ge i vs.size with h | h; exact h; simp [Array.getElem?_eq_none h] at hv
          have hc0 : cs[i]? = some cs[i] := by simp [hi]
          exact hget i v _ c hc0 hc (hr i v _ hv hc0)
        · simp at h
      · rename_i n' cs heq
        obtain rfl : n = n' := by simpa using heq
        split at h
        · rename_i l ms hll
          simp only [Option.some.injEq, Prod.mk.injEq] at h
          obtain ⟨rfl, rfl⟩ := h
          obtain ⟨hlen, hget⟩ := ih2 _ _ _ hll hns
          cases hd with | tup vs _ hs' hr =>
          refine .tup vs l (by rw [hlen]; exact hs') fun i v c hv hc => ?_
          have hi : i < cs.length := by rw [← hs']; rcases Nat.lt_or_ge i vs.size with h | h; exact h; simp [Array.getElem?_eq_none h] at hv
          have hc0 : cs[i]? = some cs[i] := by simp [hi]
          exact hget i v _ c hc0 hc (hr i v _ hv hc0)
        · simp at h
      · rename_i n' cs heq
        obtain rfl : n = n' := by simpa using heq
        split at h
        · rename_i l ms hll
          simp only [Option.some.injEq, Prod.mk.injEq] at h
          obtain ⟨rfl, rfl⟩ := h
          obtain ⟨hlen, hget⟩ := ih2 _ _ _ hll hns
          cases hd with | ref b off _ vs hv0 hcell h1 hr =>
          have hc0 : ∀ (i : Nat) c, l[i]? = some c → ∃ c0, cs[i]? = some c0 := by
            intro i c hc
            have hi : i < cs.length := by
              rw [← hlen]; rcases Nat.lt_or_ge i l.length with h | h
              · exact h
              · simp [List.getElem?_eq_none h] at hc
            exact ⟨cs[i], by simp [hi]⟩
          refine .ref b off l vs (fun hne h' => hv0 (fun e => hne (by subst e; exact List.eq_nil_of_length_eq_zero (by simpa using hlen))) (hav b h')) (fun i c hc => ?_) (fun i c hc => ?_) fun i c hc => ?_
          all_goals obtain ⟨c0, hc0⟩ := hc0 i c hc
          · exact hcell i c0 hc0
          · exact h1 i c0 hc0
          · exact hget i _ c0 c hc0 hc (hr i c0 hc0)
        · simp at h
      · rename_i n' f cs heq
        obtain rfl : n = n' := by simpa using heq
        split at h
        · rename_i l ms hll
          simp only [Option.some.injEq, Prod.mk.injEq] at h
          obtain ⟨rfl, rfl⟩ := h
          obtain ⟨hlen, hget⟩ := ih2 _ _ _ hll hns
          cases hd with | fn _ vs _ hs' hr =>
          refine .fn f vs l (by rw [hlen]; exact hs') fun i v c hv hc => ?_
          have hi : i < cs.length := by rw [← hs']; rcases Nat.lt_or_ge i vs.size with h | h; exact h; simp [Array.getElem?_eq_none h] at hv
          have hc0 : cs[i]? = some cs[i] := by simp [hi]
          exact hget i v _ c hc0 hc (hr i v _ hv hc0)
        · simp at h
      · rename_i n' t d0 heq
        obtain rfl : n = n' := by simpa using heq
        split at h
        · rename_i x ms hll
          simp only [Option.some.injEq, Prod.mk.injEq] at h
          obtain ⟨rfl, rfl⟩ := h
          cases hd with | ifc _ v' _ h' =>
          exact .ifc t v' x (ih1 _ _ _ _ h' hll hns)
        · simp at h
      · simp at h
      · simp at h
      · simp only [Option.some.injEq, Prod.mk.injEq] at h
        obtain ⟨rfl, rfl⟩ := h
        exact RD.closedTo hX.pay (cxLe_out hav) (closed_of_not (by assumption) (by assumption) (by assumption) (by assumption) (by assumption) (by assumption) (by assumption) (by assumption) (by assumption) (by assumption)) hd
    · cases l with
      | nil => simp only [lend.lendL, Option.some.injEq, Prod.mk.injEq] at h; obtain ⟨rfl, rfl⟩ := h; exact ⟨rfl, fun i v c c' hc => by simp at hc⟩
      | cons d r =>
        simp only [lend.lendL] at h
        split at h
        · rename_i x ms l0 ns0 h1 h2
          simp only [Option.some.injEq, Prod.mk.injEq] at h
          obtain ⟨rfl, rfl⟩ := h
          obtain ⟨hlen, hget⟩ := ih2 r l0 ns0 h2 (fun o x b ho => hns o x b (List.mem_append_right _ ho))
          refine ⟨by simp [hlen], fun i v c c' hc hc' hv => ?_⟩
          cases i with
          | zero =>
            simp only [List.getElem?_cons_zero, Option.some.injEq] at hc hc'
            subst hc hc'
            exact ih1 _ v _ _ hv h1 (fun o x b ho => hns o x b (List.mem_append_left _ ho))
          | succ i => exact hget i v c c' (by simpa using hc) (by simpa using hc') hv
        · simp at h

include hX hS in
theorem lendAll_sound (av' : Nat → Prop) (hav : ∀ b, av' b → (cxOf g hs w).av b) : ∀ (l : List (D α)) l' ns, lendAll X.C hs l = some (l', ns) → (∀ o ob b, o ∈ ns → look hs o = some ob → g.rho o = some b → ¬ av' b) →
    l'.length = l.length ∧ ∀ (i : Nat) v c c', l[i]? = some c → l'[i]? = some c' → RD X.C (cxOf g hs w) v c → RD X.C (cx0 w av') v c'
  | [], l', ns, h, _ => by simp only [lendAll, Option.some.injEq, Prod.mk.injEq] at h; obtain ⟨rfl, rfl⟩ := h; exact ⟨rfl, fun i v c c' hc => by simp at hc⟩
  | d :: r, l', ns, h, hns => by
    simp only [lendAll] at h
    split at h
    · rename_i x ms l0 ns0 h1 h2
      simp only [Option.some.injEq, Prod.mk.injEq] at h
      obtain ⟨rfl, rfl⟩ := h
      obtain ⟨hlen, hget⟩ := lendAll_sound av' hav r l0 ns0 h2 (fun o x b ho => hns o x b (List.mem_append_right _ ho))
      refine ⟨by simp [hlen], fun i v c c' hc hc' hv => ?_⟩
      cases i with
      | zero =>
        simp only [List.getElem?_cons_zero, Option.some.injEq] at hc hc'
        subst hc hc'
        exact (lend_sound hX hS av' hav 40).1 _ v _ _ hv h1 (fun o x b ho => hns o x b (List.mem_append_left _ ho))
      | succ i => exact hget i v c c' (by simpa using hc) (by simpa using hc') hv
    · simp at h

end
end Go.Eng

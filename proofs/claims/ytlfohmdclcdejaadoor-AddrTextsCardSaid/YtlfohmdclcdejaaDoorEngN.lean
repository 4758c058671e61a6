/-
  THE ENGINE, PART N: CONVERSIONS; LITERALS OF SLICES; ONE OPERATION.
-/
import Derived.Test.YtlfohmdclcdejaaDoorEngM
import Derived.Laws.IdiomStrings
namespace Go.Eng
open Go.RowKit

variable {α : Type}

section
variable {X : Ctx α} (hX : XOk X) {g : Gh} {tm : List (D α)} {hs : Obs α} {a : Act} {w : World} (hS : Sim X g tm hs a w)

/-- The bytes that a slice reads as. -/
theorem bytes_back {C : Pay α} (hC : PayOk C) {cx : Cx α} (P : Program) {src dst e : TypeId} {ad : Option Addr} {n c : Nat} {p : α} {k : SK} {l : List UInt8} (hb : C.bytes p = some l) (h : RD C cx (.slice ad n c) (.pl p k))
    (h1 : P.underlying src = some (.slice e)) (h2 : P.underlying e = some (.int .u8)) (h3 : P.underlying dst = some .string) :
    ∃ s : ByteArray, (convert src dst (.slice ad n c)).run P cx.w = .ok (.string s) cx.w ∧ s.data.toList = l ∧ l.length ≤ big := by
  obtain ⟨b1, b2, b3⟩ := hC.bytes p l hb
  cases h with
  | pl0 _ _ _ _ hl hk =>
    have hl0 : l = [] := List.eq_nil_of_length_eq_zero (by omega)
    subst hl0
    refine ⟨ByteArray.empty, ?_, rfl, by simp⟩
    cases ad with
    | none => rw [run_convert_bytes_string cx.w src dst e none 0 c h1 h2 h3]; rfl
    | some ad =>
      exact run_convert_bytes_back (P := P) cx.w src dst e ad c [] h1 h2 h3 (fun j hj => by simp at hj)
  | pl b off _ _ _ _ vs hn hc hbg hk hav hcell h1c hrd =>
    subst hn
    have := run_convert_bytes_back (P := P) cx.w src dst e ⟨b, off, none⟩ c l h1 h2 h3 (fun j hj => by
      rw [add_zero']
      have he := b3 j hj
      have hd : (C.elem p j)[0]? = some (.int .u8 l[j].toNat) := by rw [he]; rfl
      have h4 := hcell j 0 _ (by omega) hd
      have h5 := hrd j 0 _ (by omega) hd
      rw [b2, Nat.mul_one, Nat.add_zero] at h4
      rw [h4]
      generalize vs j 0 = v at h5
      cases h5
      rfl)
    rw [← b1] at this
    refine ⟨_, this, by simp, ?_⟩
    rw [← b1]
    exact bys_pos_len (hC.bpos p) hbg

include hX hS in
theorem convD_sound (s t : TypeId) (x : D α) (vx : Value) (hx : RD X.C (cxOf g hs w) vx x) (r : Res α) (hr : convD X hs s t x = r) (hok : r.ok = true) :
    ∃ v w', (convert s t vx).run X.P w = .ok v w' ∧ OpOut X g tm hs a r v w' := by
  have hno : (Res.no : Res α).ok = true → False := by simp [Res.no]
  unfold convD at hr
  split at hr
  · rename_i d k k0 n hs' ht
    cases hx with | int _ _ hR =>
    subst hr
    refine ⟨.int k (k.wrap n), w, ?_, OpOut.pure hX hS rfl (.int _ _ (inR_wrap _ _))⟩
    simp [convert, run_underlying hs', run_underlying ht, Conv.intToInt]
  · rename_i d l hs' ht
    cases hx with | str s0 _ h1 h2 =>
    subst hr
    refine ⟨.string s0, w, ?_, OpOut.pure hX hS rfl (.str _ _ h1 h2)⟩
    simp [convert, run_underlying hs', run_underlying ht]
  · rename_i e l hs' ht
    cases hx with | str s0 _ h1 h2 =>
    split at hr
    · rename_i p he hp hsz
      subst hr
      subst h1
      obtain ⟨o1, o2⟩ := hX.pay.ofBytes t _ p hp
      obtain ⟨b1, b2, b3⟩ := hX.pay.bytes p _ o1
      have hrun := run_bytes_of_string (P := X.P) w s t e s0 hs' ht he
      have hbel : Below w.heap.size w (w.drew.alloc (.cells (bytesRow s0 (grownCap w s0.size 0 e)) e ((bytesRow s0 (grownCap w s0.size 0 e)).size, (bytesRow s0 (grownCap w s0.size 0 e)).size + 1))) :=
        (drew_below w).alloc (Nat.le_refl _) _
      refine ⟨_, _, hrun, OpOut.quiet hX hS hbel rfl ?_⟩
      have hsize : s0.size = X.C.len p := by rw [b1, size_len]
      rw [hsize] at *
      have hlen : X.C.len p ≤ grownCap w (X.C.len p) 0 e := grownCap_ge w _ 0 e
      refine .pl w.heap.size 0 _ _ p .any (fun i _ => .int .u8 (s0.data.toList.getD i 0).toNat) rfl hlen ?_ trivial ?_ (fun i j d hi hd => ?_) (fun i j d hi hd => rfl) (fun i j d hi hd => ?_)
      · rw [o2, Nat.mul_one, b1]; exact h2
      · rintro (h | ⟨o, ob, hl, _, hr⟩)
        · have := hS.av0 _ h; have := hS.below.size; omega
        · have := (hS.own o ob _ hl hr).2; omega
      · rw [b3 i (by omega)] at hd
        obtain rfl : j = 0 := by cases j with | zero => rfl | succ j => simp at hd
        show (w.drew.alloc _).cell? ⟨w.drew.heap.size, _, none⟩ = _
        rw [b2, World.cell?_alloc_mark]
        have hi' : i < s0.data.size := by rw [b1] at hi; simpa using hi
        unfold bytesRow
        rw [Array.getElem?_append_left (by simpa using hi')]
        simp only [Nat.mul_one, Nat.zero_add, Nat.add_zero, Array.getElem?_map, Array.getElem?_eq_getElem hi', Option.map_some, List.getD_eq_getElem?_getD, Array.getElem?_toList, Option.getD_some]
      · rw [b3 i (by omega)] at hd
        obtain rfl : j = 0 := by cases j with | zero => rfl | succ j => simp at hd
        simp only [List.getElem?_cons_zero, Option.some.injEq] at hd
        subst hd
        have hi' : i < s0.data.toList.length := by omega
        rw [List.getD_eq_getElem?_getD, List.getElem?_eq_getElem hi', Option.getD_some]
        exact .int _ _ (inR_u8 _)
    · subst hr; exact (hno hok).elim
  · rename_i e hs' ht _
    split at hr
    · rename_i he _ _
      cases hx
      subst hr
      refine ⟨.string ByteArray.empty, w, ?_, OpOut.pure hX hS rfl (.str _ _ rfl (by simp))⟩
      rw [run_convert_bytes_string w s t e none 0 0 hs' he ht]; rfl
    · rename_i p k he _ _
      split at hr
      · rename_i l hb
        subst hr
        obtain ⟨ad, nn, c, rfl⟩ : ∃ ad nn c, vx = .slice ad nn c := by cases hx <;> exact ⟨_, _, _, rfl⟩
        obtain ⟨s0, h1, h2, h3⟩ := bytes_back hX.pay X.P hb hx hs' he ht
        exact ⟨_, _, h1, OpOut.pure hX hS rfl (.str _ _ h2 h3)⟩
      · subst hr; exact (hno hok).elim
    · rename_i o he _ _
      split at hr
      · rename_i fz p hlo
        split at hr
        · rename_i l hb
          subst hr
          have hx0 := (lend_sound hX hS (avBut g hs w [o]) avBut_av 40).1 (.arr o) vx (.pl p .any) [o] hx (by simp [lend, hlo]) avBut_ns
          obtain ⟨ad, nn, c, rfl⟩ : ∃ ad nn c, vx = .slice ad nn c := by cases hx0 <;> exact ⟨_, _, _, rfl⟩
          obtain ⟨s0, h1, h2, h3⟩ := bytes_back hX.pay X.P hb hx0 hs' he ht
          exact ⟨_, _, h1, OpOut.pure hX hS rfl (.str _ _ h2 h3)⟩
        · subst hr; exact (hno hok).elim
      · subst hr; exact (hno hok).elim
    · subst hr; exact (hno hok).elim
  · subst hr; exact (hno hok).elim

theorem snocs_spec {C : Pay α} (hC : PayOk C) : ∀ (rows : List (List (D α))) (p q : α), snocs C p rows = some q → C.len q = C.len p + rows.length ∧ C.esz q = C.esz p ∧ C.bys q = C.bys p ∧
    (∀ i, i < C.len p → C.elem q i = C.elem p i) ∧ ∀ (i j : Nat) row d d', rows[i]? = some row → row[j]? = some d → (C.elem q (C.len p + i))[j]? = some d' → Dle C d d'
  | [], p, q, h => by
    simp only [snocs, Option.some.injEq] at h
    subst h
    exact ⟨rfl, rfl, rfl, fun _ _ => rfl, fun i j row d d' h => by simp at h⟩
  | r :: rows, p, q, h => by
    simp only [snocs] at h
    split at h
    · rename_i p1 h1
      obtain ⟨a1, a2, a3, a4, a5, a6⟩ := hC.snoc p r p1 h1
      obtain ⟨b1, b2, b3, b4, b5⟩ := snocs_spec hC rows p1 q h
      refine ⟨by rw [b1, a1, List.length_cons]; omega, by rw [b2, a2], by rw [b3, a3], fun i hi => by rw [b4 i (by omega), a4 i hi], fun i j row d d' hi hj hd => ?_⟩
      cases i with
      | zero =>
        simp only [List.getElem?_cons_zero, Option.some.injEq] at hi
        subst hi
        rw [Nat.add_zero, b4 _ (by omega)] at hd
        exact a6 j d d' hj hd
      | succ i =>
        have : C.len p + (i + 1) = C.len p1 + i := by omega
        rw [this] at hd
        exact b5 i j row d d' (by simpa using hi) hj hd
    · simp at h

theorem overV_length : ∀ (us vs : List Value) (i : Nat), (overV vs i us).length = vs.length
  | [], _, _ => rfl
  | u :: us, vs, i => by rw [overV, overV_length us]; simp

/-- The rows of a slice's literal, laid one behind the other. -/
theorem rows_fill {C : Pay α} {cx : Cx α} (n : Nat) : ∀ (ps : List (Nat × D α)) (qs : List (Nat × Value)) (i : Nat) (rows : List (List (D α))) (vs : Array Value), qs.length = ps.length →
    (∀ (k : Nat) p q, ps[k]? = some p → qs[k]? = some q → q.1 = p.1 ∧ RD C cx q.2 p.2) → rowsOf n i ps = some rows → (i + ps.length) * n ≤ vs.size → (∀ u ∈ vs, u.oneCell' = true) →
    rows.length = ps.length ∧ ∃ vs', Instr.fill (fun k => some (k * n, n)) vs qs = some vs' ∧ vs'.size = vs.size ∧ (∀ u ∈ vs', u.oneCell' = true) ∧ (∀ k, k < i * n → vs'[k]? = vs[k]?) ∧
      ∀ (k j : Nat) row d u, rows[k]? = some row → row[j]? = some d → vs'[(i + k) * n + j]? = some u → RD C cx u d
  | [], [], i, rows, vs, _, _, h, _, hv => by
    simp only [rowsOf, Option.some.injEq] at h
    subst h
    exact ⟨rfl, vs, rfl, rfl, hv, fun _ _ => rfl, fun k j row d u h => by simp at h⟩
  | (m, d) :: ps, (m', v) :: qs, i, rows, vs, hl, hr, h, hsz, hv => by
    obtain ⟨hmm, hd⟩ := hr 0 (m, d) (m', v) rfl rfl
    simp only at hmm hd
    subst hmm
    simp only [rowsOf] at h
    cases hg : (Nat.beq i m' && fillD.isGood d && Nat.beq (cellsD d).length n) with
    | false => simp [hg] at h
    | true =>
    simp only [hg, cond_true] at h
    simp only [Bool.and_eq_true] at hg
    obtain ⟨⟨hg1, hg2⟩, hg3⟩ := hg
    obtain rfl := Nat.eq_of_beq_eq_true hg1
    have hg3 := Nat.eq_of_beq_eq_true hg3
    split at h
    · rename_i l hl0
      simp only [Option.some.injEq] at h
      subst h
      have hc := RDcells.of_good hd hg2
      have hvc : v.cells.size = n := by have := hc.1; simp at this; omega
      simp only [List.length_cons] at hsz
      have hroom : i * n + n ≤ vs.size := by
        have : (i + 1) * n ≤ (i + (ps.length + 1)) * n := Nat.mul_le_mul_right _ (by omega)
        rw [Nat.add_mul, Nat.one_mul] at this; omega
      have hfold := fold_overV' v.cells vs (i * n)
      generalize hA : (v.cells.zipIdx.foldl (fun (cs : Array Value) (x : Value × Nat) => cs.setIfInBounds (i * n + x.2) x.1) vs) = A at hfold
      have hAs : A.size = vs.size := by
        have := congrArg List.length hfold
        rw [overV_length] at this
        simpa using this
      have hA1 : ∀ u ∈ A, u.oneCell' = true := by
        intro u hu
        obtain ⟨k, hk⟩ := List.mem_iff_getElem?.1 (Array.mem_toList_iff.2 hu)
        rw [hfold, overV_get _ _ _ _ (by simp; omega)] at hk
        split at hk
        · exact hc.2.1 _ _ hk
        · exact hv u (Array.mem_toList_iff.1 (List.mem_of_getElem? hk))
      obtain ⟨ih1, vs', ih2, ih3, ih4, ih5, ih6⟩ := rows_fill n ps qs (i + 1) l A (by simpa using hl) (fun k p q hp hq => hr (k + 1) p q (by simpa using hp) (by simpa using hq)) hl0
        (by rw [hAs]; have : i + 1 + ps.length = i + (ps.length + 1) := by omega
            rw [this]; exact hsz) hA1
      refine ⟨by simp [ih1], vs', ?_, by rw [ih3, hAs], ih4, fun k hk => ?_, fun k j row d0 u hk hj hu => ?_⟩
      · simp only [Instr.fill]
        rw [if_neg (by simp; omega), hA]
        exact ih2
      · rw [ih5 k (by rw [Nat.add_mul]; omega)]
        have h1 : A[k]? = A.toList[k]? := by simp
        rw [h1, hfold, overV_get _ _ _ _ (by simp; omega), if_neg (by omega)]
        simp
      · cases k with
        | zero =>
          simp only [List.getElem?_cons_zero, Option.some.injEq] at hk
          subst hk
          have hjn : j < n := by
            rw [← hg3]
            rcases Nat.lt_or_ge j (cellsD d).length with h | h
            · exact h
            · simp [List.getElem?_eq_none h] at hj
          rw [Nat.add_zero, ih5 _ (by rw [Nat.add_mul]; omega)] at hu
          have h1 : A[i * n + j]? = A.toList[i * n + j]? := by simp
          rw [h1, hfold, overV_get _ _ _ _ (by simp; omega), if_pos (by simp; omega), Nat.add_sub_cancel_left] at hu
          exact hc.2.2 j u d0 hu hj
        | succ k =>
          have : i + (k + 1) = i + 1 + k := by omega
          rw [this] at hu
          exact ih6 k j row d0 u (by simpa using hk) hj hu
    · simp at h
  | [], _ :: _, _, _, _, hl, _, _, _, _ => by simp at hl
  | _ :: _, [], _, _, _, hl, _, _, _, _ => by simp at hl

end
end Go.Eng

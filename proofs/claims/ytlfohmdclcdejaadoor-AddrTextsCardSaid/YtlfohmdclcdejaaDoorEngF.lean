/-
  THE ENGINE, PART F: OPERATIONS THAT READ MEMORY.
-/
import Derived.Test.YtlfohmdclcdejaaDoorEngE
namespace Go.Eng
open Go.RowKit

variable {α : Type}

theorem add_zero' (b o n : Nat) : (Addr.add ⟨b, o, none⟩ n) = ⟨b, o + n, none⟩ := by
  unfold Addr.add; split <;> simp_all

theorem range_get {n i : Nat} {f : Nat → Value} {v : Value} (h : ((List.range n).map f).toArray[i]? = some v) : i < n ∧ v = f i := by
  simp only [List.getElem?_toArray, List.getElem?_map, Option.map_eq_some_iff] at h
  obtain ⟨j, hj, rfl⟩ := h
  rcases Nat.lt_or_ge i n with h' | h'
  · rw [List.getElem?_range h'] at hj
    simp only [Option.some.injEq] at hj
    subst hj
    exact ⟨h', rfl⟩
  · rw [List.getElem?_eq_none (by simpa using h')] at hj
    simp at hj

section
variable {X : Ctx α} (hX : XOk X) {g : Gh} {tm : List (D α)} {hs : Obs α} {a : Act} {w : World} (hS : Sim X g tm hs a w)

/-- What an address reads as is there. -/
def AtCells (C : Pay α) (cx : Cx α) (v : Value) (cs : List (D α)) (off : Nat) : Prop :=
  ∃ b o, v = .pointer (some ⟨b, o, none⟩) ∧ ∀ (i : Nat) c, cs[off + i]? = some c → ∃ u, cx.w.cell? ⟨b, o + i, none⟩ = some u ∧ u.oneCell' = true ∧ RD C cx u c

theorem cell_at {w : World} {b i : Nat} {cells : Array Value} {T : TypeId} {z : Nat × Nat} (h : w.heap[b]? = some (.cells cells T z)) : w.cell? ⟨b, i, none⟩ = cells[i]? := by
  simp [World.cell?, h]

include hX hS in
theorem cellsAt_sound {vx : Value} {x : D α} {cs : List (D α)} {off : Nat} (hx : RD X.C (cxOf g hs w) vx x) (h : cellsAt X.C hs x = some (cs, off)) : AtCells X.C (cxOf g hs w) vx cs off := by
  unfold cellsAt at h
  split at h
  · rename_i o k
    split at h
    · rename_i fz cs' hl
      simp only [Option.some.injEq, Prod.mk.injEq] at h
      obtain ⟨rfl, rfl⟩ := h
      cases hx with | ptr _ _ b ho =>
      simp only [cxOf, hl] at ho
      obtain ⟨b', cells, T, hb', hh, hsz, h1, hr⟩ := hS.obs o _ hl
      obtain rfl : b = b' := by rw [ho] at hb'; simpa using hb'
      refine ⟨b, k, rfl, fun i c hc => ?_⟩
      have hlt : k + i < cells.size := by
        rw [hsz]; rcases Nat.lt_or_ge (k + i) cs'.length with h | h
        · exact h
        · simp [List.getElem?_eq_none h] at hc
      have hv : cells[k + i]? = some cells[k + i] := by simp [hlt]
      refine ⟨cells[k + i], ?_, h1 _ _ hv, hr _ _ _ hv hc⟩
      rw [cell_at hh]; exact hv
    · simp at h
  · rename_i o i k
    split at h
    · rename_i fz p hl
      simp only [Option.some.injEq, Prod.mk.injEq] at h
      obtain ⟨rfl, rfl⟩ := h
      cases hx with | epr _ _ _ b p' ho hi =>
      simp only [cxOf, hl, Option.some.injEq, Prod.mk.injEq] at ho
      obtain ⟨hrho, rfl⟩ := ho
      have hob := hS.obs o _ hl
      rw [hrho] at hob
      obtain ⟨cells, T, hh, hsz, hbig, h1, hr⟩ := hob
      refine ⟨b, i * X.C.esz p + k, rfl, fun j c hc => ?_⟩
      have hj : k + j < X.C.esz p := by
        rw [← hX.pay.elen p i hi]; rcases Nat.lt_or_ge (k + j) (X.C.elem p i).length with h | h
        · exact h
        · simp [List.getElem?_eq_none h] at hc
      have hlt : i * X.C.esz p + (k + j) < cells.size := by
        have : (i + 1) * X.C.esz p ≤ X.C.len p * X.C.esz p := Nat.mul_le_mul_right _ hi
        rw [Nat.add_mul] at this; omega
      have hv : cells[i * X.C.esz p + (k + j)]? = some cells[i * X.C.esz p + (k + j)] := by simp [hlt]
      refine ⟨cells[i * X.C.esz p + (k + j)], ?_, h1 _ _ hv, hr _ _ _ _ hi hv hc⟩
      rw [Nat.add_assoc, cell_at (w := (cxOf g hs w).w) hh]; exact hv
    · simp at h
  · simp only [Option.some.injEq, Prod.mk.injEq] at h
    obtain ⟨rfl, rfl⟩ := h
    cases hx with | ref b o _ vs hav hcell h1 hrd =>
    refine ⟨b, o, rfl, fun i c hc => ?_⟩
    rw [Nat.zero_add] at hc
    exact ⟨vs i, hcell i c hc, h1 i c hc, hrd i c hc⟩
  · simp at h

theorem loadD_sound {C : Pay α} {cx : Cx α} {P : Program} {t : TypeId} {v : Value} {cs : List (D α)} {off : Nat} {d : D α} (h : AtCells C cx v cs off) (hl : loadD P t cs off = some d) :
    ∃ u, (Instr.loadAt t v).run P cx.w = .ok u cx.w ∧ RD C cx u d := by
  obtain ⟨b, o, rfl, hc⟩ := h
  unfold loadD at hl
  split at hl
  · rename_i n hsh hsz
    cases hn : Nat.ble (off + n) cs.length with
    | false => simp [hn] at hl
    | true =>
      simp only [hn, cond_true, Option.some.injEq] at hl
      subst hl
      have hle := Nat.le_of_ble_eq_true hn
      have hex : ∀ j, j < n → ∃ u, cx.w.cell? ⟨b, o + j, none⟩ = some u ∧ u.oneCell' = true ∧ RD C cx u (cs[off + j]?.getD .bad) := by
        intro j hj
        have : cs[off + j]? = some (cs[off + j]'(by omega)) := by simp
        obtain ⟨u, h1, h2, h3⟩ := hc j _ this
        exact ⟨u, h1, h2, by rw [this]; exact h3⟩
      have hf : ∃ f : Nat → Value, ∀ j, j < n → cx.w.cell? ⟨b, o + j, none⟩ = some (f j) ∧ (f j).oneCell' = true ∧ RD C cx (f j) (cs[off + j]?.getD .bad) := by
        refine ⟨fun j => (cx.w.cell? ⟨b, o + j, none⟩).getD undef, fun j hj => ?_⟩
        obtain ⟨u, h1, h2, h3⟩ := hex j hj
        simp only [h1, Option.getD_some]
        exact ⟨trivial, h2, h3⟩
      obtain ⟨f, hf⟩ := hf
      refine ⟨.agg ((List.range n).map f).toArray, ?_, .agg _ _ ?_ (fun i v hi => ?_) (fun i v c hi hc => ?_)⟩
      · have hr := run_loadCells (P := P) cx.w ⟨b, o, none⟩ n f (fun j hj => by rw [add_zero']; exact (hf j hj).1)
        simp [Instr.loadAt, Instr.sureAddr, loadVar, run_isAgg2 P cx.w hsh, run_sizeOf' P cx.w hsz, hr]
      · simp; omega
      · obtain ⟨hin, rfl⟩ := range_get hi
        exact (hf i hin).2.1
      · obtain ⟨hin, rfl⟩ := range_get hi
        have := (hf i hin).2.2
        rw [List.getElem?_take, if_pos hin, List.getElem?_drop] at hc
        rwa [hc] at this
  · rename_i hsh
    obtain ⟨u, h1, h2, h3⟩ := hc 0 d (by simpa using hl)
    refine ⟨u, ?_, h3⟩
    rw [Nat.add_zero] at h1
    simp [Instr.loadAt, Instr.sureAddr, loadVar, run_isAgg1 P cx.w hsh, h1]
  · simp at hl

theorem inR_u8 (b : UInt8) : inR .u8 b.toNat = true := by
  have := b.toNat_lt
  simp only [inR, Bool.and_eq_true, decide_eq_true_eq]
  exact ⟨by show (0 : Int) ≤ _; omega, by show _ ≤ (255 : Int); omega⟩

theorem inB_of {i : Int} {n : Nat} (h : inB i n = true) : 0 ≤ i ∧ i < n := by simpa [inB] using h

omit hX hS in
theorem arr_of {o : Nat} {fz : Bool} {p : α} (hl : look hs o = some (.arr fz p)) : (cxOf g hs w).ar o = some (g.rho o, p) := by simp [cxOf, hl]

omit hX hS in
theorem indexAddrD_sound (t : TypeId) (x ix : D α) (vx vi : Value) (hx : RD X.C (cxOf g hs w) vx x) (hi : RD X.C (cxOf g hs w) vi ix) (r : Res α) (hr : indexAddrD X hs t x ix = r) (hok : r.ok = true) :
    ∃ v, (Instr.indexAt t vx vi).run X.P w = .ok v w ∧ RD X.C (cxOf g hs w) v r.d ∧ r.ch = none := by
  unfold indexAddrD at hr
  split at hr
  · rename_i e p k k' i hu
    cases hi with | int _ _ hR =>
    split at hr
    · rename_i n hsz
      cases hn : Nat.beq n (X.C.esz p) with
      | false => simp only [hn, cond_false] at hr; subst hr; simp [Res.no] at hok
      | true =>
      simp only [hn, cond_true] at hr
      obtain rfl := Nat.eq_of_beq_eq_true hn
      subst hr
      obtain ⟨h0, h1⟩ := inB_of hok
      obtain ⟨m, rfl⟩ := Int.eq_ofNat_of_zero_le h0
      have hm : m < X.C.len p := by omega
      cases hx with
      | pl0 _ _ _ _ hl hk => omega
      | pl b off n c _ _ vs hn hc hb hk hav hcell h1c hrd =>
        subst hn
        refine ⟨.pointer (some ⟨b, off + m * X.C.esz p, none⟩), ?_, .ref _ _ _ (fun j => vs m j) (fun _ => hav) (fun j c hc => ?_) (fun j c hc => ?_) (fun j c hc => ?_), rfl⟩
        · simp [Instr.indexAt, asIntOf, run_underlying hu, run_sizeOf' X.P w hsz, add_zero', hm]
        · rw [Nat.add_assoc]; exact hcell m j c hm hc
        · exact h1c m j c hm hc
        · exact hrd m j c hm hc
    · subst hr; simp [Res.no] at hok
  · rename_i e o k' i hu
    cases hi with | int _ _ hR =>
    split at hr
    · rename_i fz p n hl hsz
      cases hn : Nat.beq n (X.C.esz p) with
      | false => simp only [hn, cond_false] at hr; subst hr; simp [Res.no] at hok
      | true =>
      simp only [hn, cond_true] at hr
      obtain rfl := Nat.eq_of_beq_eq_true hn
      subst hr
      obtain ⟨h0, h1⟩ := inB_of hok
      obtain ⟨m, rfl⟩ := Int.eq_ofNat_of_zero_le h0
      have hm : m < X.C.len p := by omega
      have har := arr_of (g := g) (w := w) hl
      cases hx with
      | arrO _ b p' n c ho hn hc hz =>
        rw [har] at ho
        simp only [Option.some.injEq, Prod.mk.injEq] at ho
        obtain ⟨hrho, rfl⟩ := ho
        subst hn
        refine ⟨.pointer (some ⟨b, 0 + m * X.C.esz p, none⟩), ?_, ?_, rfl⟩
        · simp [Instr.indexAt, asIntOf, run_underlying hu, run_sizeOf' X.P w hsz, add_zero', hm]
        · rw [Nat.zero_add]
          have := RD.epr (C := X.C) (cx := cxOf g hs w) o m 0 b p (by rw [har, hrho]) hm
          rw [Nat.add_zero] at this
          exact this
      | arrN _ p' a' ho hn =>
        rw [har] at ho
        simp only [Option.some.injEq, Prod.mk.injEq] at ho
        obtain ⟨hrho, rfl⟩ := ho
        omega
    · subst hr; simp [Res.no] at hok
  · rename_i n e o k k' i hu
    cases hi with | int _ _ hR =>
    split at hr
    · rename_i m hsz
      subst hr
      obtain ⟨h0, h1⟩ := inB_of hok
      obtain ⟨j, rfl⟩ := Int.eq_ofNat_of_zero_le h0
      have hj : j < n := by omega
      cases hx with | ptr _ _ b ho =>
      refine ⟨_, ?_, .ptr _ _ b ho, rfl⟩
      simp [Instr.indexAt, asIntOf, run_underlying hu, Instr.sureAddr, run_sizeOf' X.P w hsz, add_zero', hj]
    · subst hr; simp [Res.no] at hok
  · rename_i n e cs k' i hu
    cases hi with | int _ _ hR =>
    split at hr
    · rename_i m hsz
      subst hr
      obtain ⟨h0, h1⟩ := inB_of hok
      obtain ⟨j, rfl⟩ := Int.eq_ofNat_of_zero_le h0
      have hj : j < n := by omega
      cases hx with | ref b off _ vs hav hcell h1 hrd =>
      refine ⟨.pointer (some ⟨b, off + j * m, none⟩), ?_, .ref _ _ _ (fun i => vs (j * m + i)) (fun hne => hav (by intro e; subst e; simp at hne)) (fun i c hc => ?_) (fun i c hc => ?_) (fun i c hc => ?_), rfl⟩
      · simp [Instr.indexAt, asIntOf, run_underlying hu, Instr.sureAddr, run_sizeOf' X.P w hsz, add_zero', hj]
      · rw [Int.toNat_natCast, List.getElem?_drop] at hc; rw [Nat.add_assoc]; exact hcell _ c hc
      · rw [Int.toNat_natCast, List.getElem?_drop] at hc; exact h1 _ c hc
      · rw [Int.toNat_natCast, List.getElem?_drop] at hc; exact hrd _ c hc
    · subst hr; simp [Res.no] at hok
  · subst hr; simp [Res.no] at hok

theorem indexD_sound {C : Pay α} {cx : Cx α} (P : Program) (w : World) (t : TypeId) (x ix : D α) (vx vi : Value) (hx : RD C cx vx x) (hi : RD C cx vi ix) (r : Res α) (hr : indexD P t x ix = r) (hok : r.ok = true) :
    ∃ v, (Instr.index t vx vi).run P w = .ok v w ∧ RD C cx v r.d ∧ r.ch = none := by
  unfold indexD at hr
  split at hr
  · rename_i l k' i hu
    cases hi with | int _ _ hR =>
    cases hx with | str s _ hs hl =>
    subst hr
    obtain ⟨h0, h1⟩ := inB_of hok
    obtain ⟨j, rfl⟩ := Int.eq_ofNat_of_zero_le h0
    have hj : j < l.length := by omega
    have hg : s[j]? = some (l.getD j 0) := by
      subst hs
      have hj' : j < s.size := by have : s.data.toList.length = s.size := Array.length_toList; omega
      rw [List.getD_eq_getElem?_getD, List.getElem?_eq_getElem hj, Option.getD_some]
      rw [getElem?_pos s j hj']
      rfl
    refine ⟨.int .u8 (l.getD j 0).toNat, ?_, ?_, rfl⟩
    · simp only [Instr.index, asIntOf, Sem.run_bind, Sem.run_pure, Result.andThen_ok, run_underlying hu]
      simp [hg]
    · exact .int _ _ (inR_u8 _)
  · rename_i n e cs k' i hu
    cases hi with | int _ _ hR =>
    split at hr
    · rename_i m d hsz hp
      subst hr
      obtain ⟨h0, h1⟩ := inB_of hok
      obtain ⟨j, rfl⟩ := Int.eq_ofNat_of_zero_le h0
      have hj : j < n := by omega
      have hx' := hx
      cases hx with | agg vs _ _ _ _ =>
      rw [hsz] at hp
      obtain ⟨v, h1, h2⟩ := partD_sound P w hx' hp
      refine ⟨v, ?_, h2, rfl⟩
      simp only [Option.getD_some, Int.toNat_natCast] at h1
      simp [Instr.index, asIntOf, run_underlying hu, run_sizeOf' P w hsz, hj, h1]
    · subst hr; simp [Res.no] at hok
  · subst hr; simp [Res.no] at hok

end
end Go.Eng

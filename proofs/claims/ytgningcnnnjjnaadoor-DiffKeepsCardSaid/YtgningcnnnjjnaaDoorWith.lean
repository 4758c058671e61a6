/-
  A MAP WITH AN ELEMENT AT A KEY THAT IT HAS (the document's 'With'): what the code computes, where the keys rise.
-/
import Derived.Test.YtgningcnnnjjnaaDoorFind
import Derived.Test.YtgningcnnnjjnaaDoorLess
namespace Go.Proofs.YtgningcnnnjjnaaDoor
open Go.Eng

set_option maxRecDepth 100000

def risB (ks : List Str) : Bool := (List.range ks.length).all fun i => bif Nat.beq i 0 then true else Op.bytesLess (ks.getD (i - 1) []) (ks.getD i [])

theorem ris_step {ks : List Str} (h : risB ks = true) {i : Nat} (hi : i + 1 < ks.length) : Op.bytesLess (ks.getD i []) (ks.getD (i + 1) []) = true := by
  unfold risB at h
  rw [List.all_eq_true] at h
  exact h (i + 1) (List.mem_range.2 hi)

theorem ris_lt {ks : List Str} (h : risB ks = true) {i : Nat} : ∀ d, i + d + 1 < ks.length → Op.bytesLess (ks.getD i []) (ks.getD (i + d + 1) []) = true
  | 0, hi => ris_step h hi
  | d + 1, hi => ltS_trans (ris_lt h d (by omega)) (ris_step h (i := i + d + 1) hi)

theorem ris_any {ks : List Str} (h : risB ks = true) {i j : Nat} (hij : i < j) (hj : j < ks.length) : Op.bytesLess (ks.getD i []) (ks.getD j []) = true := by
  obtain ⟨d, rfl⟩ : ∃ d, j = i + d + 1 := ⟨j - i - 1, by omega⟩
  exact ris_lt h d hj

theorem less_ne {a b : Str} (h : Op.bytesLess a b = true) : a ≠ b := by
  rintro rfl
  have := ltS_irr a
  unfold ltS at this
  rw [this] at h; simp at h

def hW (m x : Val) (kn ln : D Pl) : Obs Pl := [(7, .box false [.int .i64 5, .int .i64 (.ofNat 0), .str [], ln, kn, .int .i64 (.ofNat 0), .int .i64 (.ofNat 0), .bool false]), (6, .box false cZ), (5, .box false (cV x)), (3, .box false (cV m))]
def slW (k : Str) (d : Bool) (i : Int) : List (Nat × D Pl) := [(1, .str k), (3, .ptr 3 0), (5, .ptr 5 0), (6, .ptr 6 0), (7, .ptr 7 0), (8, .bool d), (9, dI i)]
def w0 (m x : Val) (k : Str) (d : Bool) (i : Int) : St Pl := mkS 83 (slW k d i) (hW m x .nilS .nilS)
def wA (m x : Val) (k : Str) (d : Bool) (ks : List Str) (l : List Val) (i : Int) : St Pl := mkS 83 (slW k d i) ((66, .arr false (pVals l)) :: (56, .arr false (pStrs ks)) :: hW m x (.arr 56) (.arr 66))
def wB (m x : Val) (k : Str) (d : Bool) (ks : List Str) (l : List Val) (i : Int) : St Pl := mkS 83 (slW k d i) ((39, .arr false (pVals l)) :: (33, .arr false (pStrs ks)) :: hW m x (.arr 33) (.arr 39))

abbrev RW := Option (Ex × St Pl)
def kAt (m : Val) (i : Nat) : Str := m.keys.getD i []
def lAt (m : Val) (i : Nat) : Val := etaV (m.l.getD i default)
def nx (i : Nat) : Int := IntKind.i64.wrap ((i : Int) + 1)
def ckK (ks : List Str) (r : RW) : RW := ck_ (Nat.ble ((ks.length + 1) * 16) big) r
def ckL (l : List Val) (r : RW) : RW := ck_ (Nat.ble ((l.length + 1) * 104) big) r
/-- an element goes along -/
def cpW (m x : Val) (k : Str) (d : Bool) (ks : List Str) (l : List Val) (i : Nat) : RW :=
  ix_ i m.keys.length (ckK ks (ix_ i m.l.length (ckL l (some (.normal, wA m x k d (ks ++ [kAt m i]) (l ++ [lAt m i]) (nx i))))))

noncomputable abbrev evW (S : St Pl) : RW := evD tell0 noTL noL 1 (loopAt 27 0) [1, 3, 5, 6, 7, 8, 9] [32, 38, 55, 65] S

theorem b27_0 (m x : Val) (k : Str) (i : Nat) : evW (w0 m x k false i) = lt_ i m.keys.length (ix_ i m.keys.length (bif !(Op.bytesLess (kAt m i) k) then
      ix_ i m.keys.length (bif !(kAt m i == k) then cpW m x k true [k] [etaV x] i else some (.normal, wB m x k true [k] [etaV x] (nx i)))
    else ix_ i m.keys.length (bif !(kAt m i == k) then ix_ i m.keys.length (ix_ i m.l.length (some (.normal, wA m x k false [kAt m i] [lAt m i] (nx i)))) else some (.normal, w0 m x k false (nx i)))))
    (some (.exit 0, w0 m x k false i)) := by kernel_rfl

theorem b27_A (m x : Val) (k : Str) (ks : List Str) (l : List Val) (i : Nat) : evW (wA m x k false ks l i) = lt_ i m.keys.length (ix_ i m.keys.length (bif !(Op.bytesLess (kAt m i) k) then
      ckK ks (ckL l (ix_ i m.keys.length (bif !(kAt m i == k) then cpW m x k true (ks ++ [k]) (l ++ [etaV x]) i else some (.normal, wB m x k true (ks ++ [k]) (l ++ [etaV x]) (nx i)))))
    else ix_ i m.keys.length (bif !(kAt m i == k) then cpW m x k false ks l i else some (.normal, wA m x k false ks l (nx i)))))
    (some (.exit 0, wA m x k false ks l i)) := by kernel_rfl

theorem b27_At (m x : Val) (k : Str) (ks : List Str) (l : List Val) (i : Nat) : evW (wA m x k true ks l i) = lt_ i m.keys.length
    (ixo_ i m.keys.length false (ix_ i m.keys.length (bif !(kAt m i == k) then cpW m x k true ks l i else some (.normal, wA m x k true ks l (nx i))))) (some (.exit 0, wA m x k true ks l i)) := by kernel_rfl
theorem b27_Bt (m x : Val) (k : Str) (ks : List Str) (l : List Val) (i : Nat) : evW (wB m x k true ks l i) = lt_ i m.keys.length
    (ixo_ i m.keys.length false (ix_ i m.keys.length (bif !(kAt m i == k) then cpW m x k true ks l i else some (.normal, wB m x k true ks l (nx i))))) (some (.exit 0, wB m x k true ks l i)) := by kernel_rfl

theorem ids27 : (loopsAt 27).length = 1 ∧ firstId (loopAt 27 0) = 4 ∧ loopsOf (loopAt 27 0) = [] := ⟨by kernel_rfl, by kernel_rfl, by kernel_rfl⟩

/-- where the key stands, the keys rise, each has an element -/
def okW (m : Val) (k : Str) : Bool := risB m.keys && (Nat.blt (posN m.keys k) m.keys.length && (Nat.beq m.keys.length m.l.length && Nat.ble (m.keys.length * 104) big))
def setE (m x : Val) (k : Str) : List Val := m.l.set (posN m.keys k) x

/-- the states that the loop goes through -/
def wS (m x : Val) (k : Str) (i : Nat) : St Pl := bif Nat.beq i 0 then w0 m x k false i else bif Nat.ble i (posN m.keys k) then wA m x k false (m.keys.take i) (m.l.take i) i
  else bif Nat.beq i (posN m.keys k + 1) then wB m x k true (m.keys.take i) ((setE m x k).take i) i else wA m x k true (m.keys.take i) ((setE m x k).take i) i

theorem pos_spec {ks : List Str} {k : Str} (h : posN ks k < ks.length) : ks.getD (posN ks k) [] = k := by
  unfold posN at h ⊢
  rcases ff_spec ks.length (fun i => !(k == ks.getD i [])) with ⟨h1, _⟩ | ⟨_, h2, _⟩
  · omega
  · have : (k == ks.getD (ff (fun i => !(k == ks.getD i [])) ks.length) []) = true := by simpa using h2
    exact (beq_iff_eq.1 this).symm

theorem take_snocS (l : List Str) {i : Nat} (h : i < l.length) : l.take i ++ [l.getD i []] = l.take (i + 1) := by
  rw [List.take_add_one, List.getD_eq_getElem?_getD, List.getElem?_eq_getElem h]
  rfl

theorem wS_step {m x : Val} {k : Str} (h : okW m k = true) {i : Nat} (hi : i < m.keys.length) : evW (wS m x k i) = some (.normal, wS m x k (i + 1)) := by
  simp only [okW, Bool.and_eq_true, Nat.blt_eq, Nat.ble_eq] at h
  obtain ⟨hr, hp, hl, hb⟩ := h
  have hl := Nat.eq_of_beq_eq_true hl
  have hbig : big = 140737488355328 := rfl
  have hk := pos_spec hp
  have hlt : ∀ j, j < posN m.keys k → Op.bytesLess (kAt m j) k = true := fun j hj => by
    have := ris_any hr hj hp
    rw [hk] at this; exact this
  have hgt : ∀ j, posN m.keys k < j → j < m.keys.length → (kAt m j == k) = false := fun j hj hj2 => by
    have := ris_any hr hj hj2
    rw [hk] at this
    exact beq_eq_false_iff_ne.2 (less_ne this).symm
  have hself : Op.bytesLess k k = false := ltS_irr k
  have hnx : nx i = ((i + 1 : Nat) : Int) := wrap_nat (by omega)
  have hks := take_snocS m.keys hi
  have hll := take_snoc m.l (i := i) (by omega)
  have hset : (setE m x k).length = m.l.length := by unfold setE; simp
  have hs2 : ∀ j, j ≠ posN m.keys k → (setE m x k).getD j default = m.l.getD j default := fun j hj => by
    unfold setE
    rw [List.getD_eq_getElem?_getD, List.getD_eq_getElem?_getD, List.getElem?_set, if_neg (fun h => hj h.symm)]
  have hs3 : (setE m x k).getD (posN m.keys k) default = x := by
    unfold setE
    rw [List.getD_eq_getElem?_getD, List.getElem?_set, if_pos rfl, if_pos (by omega)]; rfl
  have htk : ∀ j, j ≤ posN m.keys k → (setE m x k).take j = m.l.take j := fun j hj => by
    unfold setE
    exact List.take_set_of_le hj
  have hss := take_snoc (setE m x k) (i := i) (by omega)
  have hkl : (m.keys.take i).length = i := by rw [List.length_take]; omega
  have hlA : (m.l.take i).length = i := by rw [List.length_take]; omega
  have hlS : ((setE m x k).take i).length = i := by rw [List.length_take, hset]; omega
  unfold wS
  rcases Nat.lt_trichotomy i (posN m.keys k) with hc | hc | hc
  · have e1 : (kAt m i == k) = false := beq_eq_false_iff_ne.2 (less_ne (hlt i hc))
    rw [show Nat.beq (i + 1) 0 = false from rfl, show Nat.ble (i + 1) (posN m.keys k) = true from ble_t (by omega)]
    simp only [cond_false, cond_true]
    rw [← hks, ← hll]
    by_cases h0 : i = 0
    · subst h0
      rw [show Nat.beq 0 0 = true from rfl]
      simp only [cond_true]
      rw [b27_0, lt_t hi, ix_t hi, hlt 0 hc]
      simp only [Bool.not_true, cond_false]
      rw [ix_t hi, e1, ix_t hi, ix_t (by omega), hnx]
      unfold lAt
      rw [etaV_eq]
      rfl
    · rw [show Nat.beq i 0 = false by cases hb : Nat.beq i 0 with | false => rfl | true => exact absurd (Nat.eq_of_beq_eq_true hb) h0, show Nat.ble i (posN m.keys k) = true from ble_t (by omega)]
      simp only [cond_true, cond_false]
      rw [b27_A, lt_t hi, ix_t hi, hlt i hc]
      simp only [Bool.not_true, cond_false]
      rw [ix_t hi, e1]
      unfold cpW ckK ckL lAt
      simp only [Bool.not_false, cond_true]
      rw [ix_t hi, hkl, ck_t (ble_t (by omega)), ix_t (by omega), hlA, ck_t (ble_t (by omega)), hnx, etaV_eq]
      rfl
  · have e1 : kAt m i = k := by rw [hc]; exact hk
    have e2 : (kAt m i == k) = true := by rw [e1]; simp
    have hnb : Nat.ble (i + 1) (posN m.keys k) = false := by
      cases hb : Nat.ble (i + 1) (posN m.keys k) with
      | false => rfl
      | true => rw [Nat.ble_eq] at hb; omega
    rw [show Nat.beq (i + 1) 0 = false from rfl, hnb, show Nat.beq (i + 1) (posN m.keys k + 1) = true by rw [hc]; exact Nat.beq_refl _]
    simp only [cond_false, cond_true]
    rw [← hks, ← hss, htk i (by omega), show m.keys.getD i [] = k from e1, show (setE m x k).getD i default = x by rw [hc]; exact hs3]
    by_cases h0 : i = 0
    · subst h0
      rw [show Nat.beq 0 0 = true from rfl]
      simp only [cond_true]
      rw [b27_0, lt_t hi, ix_t hi, e1, hself]
      simp only [Bool.not_false, cond_true]
      rw [ix_t hi, show (k == k) = true by simp, hnx, etaV_eq]
      rfl
    · rw [show Nat.beq i 0 = false by cases hb : Nat.beq i 0 with | false => rfl | true => exact absurd (Nat.eq_of_beq_eq_true hb) h0, show Nat.ble i (posN m.keys k) = true from ble_t (by omega)]
      simp only [cond_true, cond_false]
      rw [b27_A, lt_t hi, ix_t hi, e1, hself]
      unfold ckK ckL
      simp only [Bool.not_false, cond_true]
      rw [hkl, ck_t (ble_t (by omega)), hlA, ck_t (ble_t (by omega)), ix_t hi, show (k == k) = true by simp, hnx, etaV_eq]
      rfl
  · have e1 := hgt i hc hi
    have hnb : ∀ j, posN m.keys k < j → Nat.ble j (posN m.keys k) = false := fun j hj => by
      cases hb : Nat.ble j (posN m.keys k) with
      | false => rfl
      | true => rw [Nat.ble_eq] at hb; omega
    have hne : ∀ j, posN m.keys k + 1 < j → Nat.beq j (posN m.keys k + 1) = false := fun j hj => by
      cases hb : Nat.beq j (posN m.keys k + 1) with
      | false => rfl
      | true => have := Nat.eq_of_beq_eq_true hb; omega
    rw [show Nat.beq (i + 1) 0 = false from rfl, hnb (i + 1) (by omega), hne (i + 1) (by omega), show Nat.beq i 0 = false by cases hb : Nat.beq i 0 with | false => rfl | true => have := Nat.eq_of_beq_eq_true hb; omega, hnb i hc]
    simp only [cond_false]
    rw [← hks, ← hss, hs2 i (by omega)]
    cases hb2 : Nat.beq i (posN m.keys k + 1) with
    | true =>
      simp only [cond_true]
      rw [b27_Bt, lt_t hi, ixo_t hi, ix_t hi, e1]
      unfold cpW ckK ckL lAt
      simp only [Bool.not_false, cond_true]
      rw [ix_t hi, hkl, ck_t (ble_t (by omega)), ix_t (by omega), hlS, ck_t (ble_t (by omega)), hnx, etaV_eq]
      rfl
    | false =>
      simp only [cond_false]
      rw [b27_At, lt_t hi, ixo_t hi, ix_t hi, e1]
      unfold cpW ckK ckL lAt
      simp only [Bool.not_false, cond_true]
      rw [ix_t hi, hkl, ck_t (ble_t (by omega)), ix_t (by omega), hlS, ck_t (ble_t (by omega)), hnx, etaV_eq]
      rfl

theorem wS_last {m x : Val} {k : Str} (h : okW m k = true) : evW (wS m x k m.keys.length) = some (.exit 0, wS m x k m.keys.length) := by
  simp only [okW, Bool.and_eq_true, Nat.blt_eq, Nat.ble_eq] at h
  obtain ⟨hr, hp, hl, hb⟩ := h
  unfold wS
  rw [show Nat.beq m.keys.length 0 = false by cases hb : Nat.beq m.keys.length 0 with | false => rfl | true => have := Nat.eq_of_beq_eq_true hb; omega,
    show Nat.ble m.keys.length (posN m.keys k) = false by cases hb : Nat.ble m.keys.length (posN m.keys k) with | false => rfl | true => rw [Nat.ble_eq] at hb; omega]
  simp only [cond_false]
  cases Nat.beq m.keys.length (posN m.keys k + 1) with
  | true => simp only [cond_true]; rw [b27_Bt, lt_f (by omega)]
  | false => simp only [cond_false]; rw [b27_At, lt_f (by omega)]

def rA (m x : Val) (k : Str) : St Pl := mkS 83 [(1, .str k), (3, .ptr 3 0), (5, .ptr 5 0), (6, .ptr 6 0), (7, .ptr 7 0), (8, .bool true)] ((66, .arr false (pVals (setE m x k))) :: (56, .arr false (pStrs m.keys)) :: hW m x (.arr 56) (.arr 66))
def rB (m x : Val) (k : Str) : St Pl := mkS 83 [(1, .str k), (3, .ptr 3 0), (5, .ptr 5 0), (6, .ptr 6 0), (7, .ptr 7 0), (8, .bool true)] ((39, .arr false (pVals (setE m x k))) :: (33, .arr false (pStrs m.keys)) :: hW m x (.arr 33) (.arr 39))

def LS27 (S : St Pl) : Option (Bool × LR Pl) := match seenS 83 [1, 3, 5, 6, 7, 8, 9] S with
  | some ([.str k, .ptr 3 0, .ptr 5 0, .ptr 6 0, .ptr 7 0, .bool false, .int .i64 (.ofNat 0)], [(7, .box false [.int .i64 5, .int .i64 (.ofNat 0), .str [], .nilS, .nilS, .int .i64 (.ofNat 0), .int .i64 (.ofNat 0), .bool false]),
      (6, .box false [.int .i64 (.ofNat 0), .int .i64 (.ofNat 0), .str [], .nilS, .nilS, .int .i64 (.ofNat 0), .int .i64 (.ofNat 0), .bool false]), (5, .box false cx), (3, .box false cm)]) => (match exV cm, exV cx with
    | some m, some x => some (okW m k, .ite (Nat.beq m.keys.length (posN m.keys k + 1)) (.leaf (.exit 0) (rB m x k)) (.leaf (.exit 0) (rA m x k)))
    | _, _ => none)
  | _ => none

theorem LS27_ok : SOk X0 (loopAt 27 0) LS27 := by
  intro S b r h hb
  unfold LS27 at h
  split at h
  · rename_i k cx cm hs
    split at h
    · rename_i m x hm hx
      simp only [Option.some.injEq, Prod.mk.injEq] at h
      obtain ⟨rfl, rfl⟩ := h
      obtain rfl := exV_eq hm
      obtain rfl := exV_eq hx
      refine Goes.pre (keepOf [1, 3, 5, 6, 7, 8, 9]) ?_
      rw [seenS_mask hs]
      have hgo := all_ofD (tell0_ok _) (noLoops (L := noL) ids27.2.2) (k := 1) (keep := [1, 3, 5, 6, 7, 8, 9]) (lose := [32, 38, 55, 65]) (keep2 := [1, 3, 5, 6, 7, 8]) (Sf := wS m x k) (n := m.keys.length) (e1 := .exit 0) (S1 := maskS (keepOf [1, 3, 5, 6, 7, 8]) (wS m x k m.keys.length)) (by simp)
        (fun i hi => wS_step hb hi) (wS_last hb) rfl
      have hend : maskS (keepOf [1, 3, 5, 6, 7, 8]) (wS m x k m.keys.length) = bif Nat.beq m.keys.length (posN m.keys k + 1) then rB m x k else rA m x k := by
        have h := hb
        simp only [okW, Bool.and_eq_true, Nat.blt_eq, Nat.ble_eq] at h
        obtain ⟨hr, hp, hl, hb'⟩ := h
        have hl := Nat.eq_of_beq_eq_true hl
        unfold wS
        rw [show Nat.beq m.keys.length 0 = false by cases hb : Nat.beq m.keys.length 0 with | false => rfl | true => have := Nat.eq_of_beq_eq_true hb; omega,
          show Nat.ble m.keys.length (posN m.keys k) = false by cases hb : Nat.ble m.keys.length (posN m.keys k) with | false => rfl | true => rw [Nat.ble_eq] at hb; omega]
        have e1 : m.keys.take m.keys.length = m.keys := List.take_length
        have e2 : (setE m x k).take m.keys.length = setE m x k := by
          rw [hl, show m.l.length = (setE m x k).length by unfold setE; simp]
          exact List.take_length
        rw [e1, e2]
        cases Nat.beq m.keys.length (posN m.keys k + 1) <;> rfl
      rw [hend] at hgo
      have hpick : (pickR (.ite (Nat.beq m.keys.length (posN m.keys k + 1)) (.leaf (.exit 0) (rB m x k)) (.leaf (.exit 0) (rA m x k)))) = (.exit 0, bif Nat.beq m.keys.length (posN m.keys k + 1) then rB m x k else rA m x k) := by
        cases Nat.beq m.keys.length (posN m.keys k + 1) <;> rfl
      rw [hpick]
      exact hgo
    · simp at h
  · simp at h

def withV (m x : Val) (k : Str) : Val := ⟨5, .ofNat 0, [], setE m x k, m.keys, .ofNat 0, .ofNat 0, false⟩
theorem e27 (m x : Val) (k : Str) : evF tell0 noTL (atL 4 LS27 noL) 1 Tryd.f27 [.agg (cV m), .str k, .agg (cV x)] =
    ck_ (okW (etaV m) k) (bif Nat.beq m.keys.length (posN m.keys k + 1) then some (.agg (cV (withV (etaV m) (etaV x) k))) else some (.agg (cV (withV (etaV m) (etaV x) k)))) := by kernel_rfl

theorem with_sound (m x : Val) (k : Str) (h : okW m k = true) : Snd 27 [.agg (cV m), .str k, .agg (cV x)] (.agg (cV (withV m x k))) := by
  refine snd_fn (n := 1) (tell0_ok _) (noTL_ok _ _) (fn := Tryd.f27) (by kernel_rfl) (loops_of (fn := Tryd.f27) (by kernel_rfl) (loops_1 ids27.1 (atL_ok (fun _ => LS27_ok) fun h => absurd ids27.2.1 h))) ((e27 m x k).trans ?_)
  rw [etaV_eq, etaV_eq, ck_t h]
  cases Nat.beq m.keys.length (posN m.keys k + 1) <;> rfl

def pvsv (f : Val → Str → Val → Bool × D Pl) : List (D Pl) → Option (Bool × D Pl)
  | [d, .str k, e] => match asV d, asV e with
    | some m, some x => some (f m k x)
    | _, _ => none
  | _ => none
theorem pvsv_ok {g : FuncId} {f : Val → Str → Val → Bool × D Pl} (h : ∀ m k x, (f m k x).1 = true → Snd g [.agg (cV m), .str k, .agg (cV x)] (f m k x).2) : ∀ ds b d, pvsv f ds = some (b, d) → b = true → Snd g ds d := by
  intro ds b d hp hb
  unfold pvsv at hp
  split at hp
  · split at hp
    · rename_i ha hx
      simp only [Option.some.injEq] at hp
      have h1 := h _ _ _ (by rw [hp]; exact hb)
      rw [hp] at h1
      exact h1.pre (.cons (asV_rdle ha) (.cons (RDle.refl _) (.cons (asV_rdle hx) .nil)))
    · simp at hp
  · simp at hp

end Go.Proofs.YtgningcnnnjjnaaDoor

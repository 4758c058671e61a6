/-
  LENT BYTES: what the document's verifier hands over, with room behind it, and how it looks whether that stands.
-/
import Derived.Test.YtgngobcmfflcpaaDoorLaw
namespace Go.Proofs.YtgngobcmfflcpaaDoor
open Go.Eng

set_option maxRecDepth 100000

-- the same bytes?

noncomputable def leq (l m : List UInt8) : Bool := @decide (l = m) (Classical.propDecidable _)
theorem leq_iff {l m : List UInt8} : leq l m = true ↔ l = m := by unfold leq; simp
def byU (l : List UInt8) (i : Nat) : Int := Int.ofNat (l.getD i 0).toNat

def sSm (l m : List UInt8) (i : Int) : St Pl := mkS 26 [(0, .pl (pBytes l) .any), (1, .pl (pBytes m) .any), (4, .bool false), (5, .int .i64 i)] []
def rSm (l m : List UInt8) : St Pl := mkS 26 [(0, .pl (pBytes l) .any), (1, .pl (pBytes m) .any), (4, .bool false)] []
theorem bSm (l m : List UInt8) (i : Nat) : evC tell0 noTL noL 1 (loopAt 13 0) [0, 1, 4, 5] (sSm l m i) =
    lt_ i l.length (ix_ i l.length (ix_ i m.length (bif byU l i != byU m i then some (.ret, sSm l m i) else some (.normal, sSm l m (IntKind.i64.wrap ((i : Int) + 1)))))) (some (.exit 0, sSm l m i)) := by kernel_rfl
theorem idsSm : (loopsAt 13).length = 1 ∧ firstId (loopAt 13 0) = 4 ∧ loopsOf (loopAt 13 0) = [] := ⟨by kernel_rfl, by kernel_rfl, by kernel_rfl⟩
def allE (l m : List UInt8) : Bool := (List.range l.length).all fun i => !(byU l i != byU m i)
theorem allE_leq {l m : List UInt8} (h : l.length = m.length) : allE l m = leq l m := by
  rw [Bool.eq_iff_iff, leq_iff, allE, List.all_eq_true]
  constructor
  · intro ha
    refine List.ext_getElem h fun i h1 h2 => ?_
    have := ha i (by simpa using h1)
    simp only [byU, List.getD_eq_getElem?_getD, List.getElem?_eq_getElem h1, List.getElem?_eq_getElem h2, Option.getD_some, bne, Bool.not_not, beq_iff_eq, Int.ofNat_eq_natCast] at this
    exact UInt8.toNat_inj.1 (by omega)
  · rintro rfl i _
    simp
theorem goSm (l m : List UInt8) (h : l.length = m.length) (hl : l.length ≤ big) :
    Goes X0 (.loop (loopAt 13 0)) (sSm l m 0) (pickR (.ite (allE l m) (.leaf (.exit 0) (rSm l m)) (.leaf .ret (rSm l m)))).1 (pickR (.ite (allE l m) (.leaf (.exit 0) (rSm l m)) (.leaf .ret (rSm l m)))).2 :=
  search_of (tell0_ok _) idsSm.2.2 (Sf := fun i => sSm l m i) (S2' := fun i => sSm l m i) (keep2 := [0, 1, 4]) (p := fun i => !(byU l i != byU m i)) (by simp) (by simp)
    (fun i hi => by rw [bSm, lt_t hi, ix_t hi, ix_t (by omega), wrap_nat (show i ≤ big by omega)]; cases (byU l i != byU m i) <;> rfl) (by rw [bSm, lt_f (by omega)]) rfl (fun i => rfl)

noncomputable def LSSm (S : St Pl) : Option (Bool × LR Pl) := match seenS 26 [0, 1, 4, 5] S with
  | some ([.pl ⟨.bytes, l⟩ .any, .pl ⟨.bytes, m⟩ .any, .bool false, .int .i64 (.ofNat 0)], []) => some (Nat.beq l.length m.length && Nat.ble l.length big, .ite (leq l m) (.leaf (.exit 0) (rSm l m)) (.leaf .ret (rSm l m)))
  | _ => none
theorem LSSm_ok : SOk X0 (loopAt 13 0) LSSm := by
  intro S b r h hb
  unfold LSSm at h
  split at h
  · rename_i l m hs
    simp only [Option.some.injEq, Prod.mk.injEq] at h
    obtain ⟨rfl, rfl⟩ := h
    simp only [Bool.and_eq_true, Nat.ble_eq] at hb
    obtain ⟨h1, hb⟩ := hb
    have h1 := Nat.eq_of_beq_eq_true h1
    refine Goes.pre (keepOf [0, 1, 4, 5]) ?_
    rw [seenS_mask hs, ← allE_leq h1]
    exact goSm l m h1 hb
  · simp at h
theorem eSm (l m : List UInt8) : evF tell0 noTL (atL 4 LSSm noL) 1 Tryd.f13 [.pl (pBytes l) .any, .pl (pBytes m) .any] =
    bif ((l.length : Int) != (m.length : Int)) then some (.bool false) else ck_ (Nat.beq l.length m.length && Nat.ble l.length big) (bif leq l m then some (.bool true) else some (.bool false)) := by kernel_rfl
theorem same_sound (l m : List UInt8) : Snd 13 [.pl (pBytes l) .any, .pl (pBytes m) .any] (.bool (leq l m)) := by
  refine SoundAt.rooms fun hroom => snd_fn (n := 1) (tell0_ok _) (noTL_ok _ _) (fn := Tryd.f13) (by kernel_rfl) (loops_of (fn := Tryd.f13) (by kernel_rfl) (loops_1 idsSm.1 (atL_ok (fun _ => LSSm_ok) fun h => absurd idsSm.2.1 h))) ((eSm l m).trans ?_)
  have h1 : l.length * 1 ≤ big := hroom (.pl (pBytes l) .any) (by simp)
  by_cases h : l.length = m.length
  · rw [show ((l.length : Int) != (m.length : Int)) = false by rw [h]; simp, cond_false, ck_t (by rw [h, Nat.beq_refl, ← h, ble_t (by omega)]; rfl)]
    cases leq l m <;> rfl
  · rw [show ((l.length : Int) != (m.length : Int)) = true by simp; omega, cond_true]
    have : leq l m = false := by
      cases hq : leq l m with
      | false => rfl
      | true => exact absurd (congrArg List.length (leq_iff.1 hq)) h
    rw [this]
noncomputable def pSame : List (D Pl) → Option (Bool × D Pl)
  | [a, b] => match asBy a, asBy b with
    | some l, some m => some (true, .bool (leq l m))
    | _, _ => none
  | _ => none
theorem pSame_ok : ∀ ds b d, pSame ds = some (b, d) → b = true → Snd 13 ds d := by
  intro ds b d h hb
  unfold pSame at h
  split at h
  · split at h
    · rename_i l m hl hm
      simp only [Option.some.injEq, Prod.mk.injEq] at h
      obtain ⟨_, rfl⟩ := h
      exact (same_sound l m).pre (.cons (asBy_rdle hl) (.cons (asBy_rdle hm) .nil))
    · simp at h
  · simp at h

-- bytes with room behind them

def A5 : List UInt8 := [165, 165, 165, 165, 165, 165, 165, 165]
def sLt (l m : List UInt8) (i : Int) : St Pl := mkS 33 [(0, .pl (pBytes l) .any), (3, .arr 8), (4, .int .i64 i)] [(8, .arr false (pBytes m))]
def rLt (l : List UInt8) : St Pl := mkS 33 [(0, .pl (pBytes l) .any), (3, .arr 8)] [(8, .arr false (pBytes (l ++ A5)))]
theorem bLt (l m : List UInt8) (i : Nat) : evD tell0 noTL noL 1 (loopAt 7 0) [0, 3, 4] [] (sLt l m i) =
    bif decide ((i : Int) < (m.length : Int)) then
      (bif decide ((i : Int) < (l.length : Int)) then ix_ i l.length (ix_ i m.length (ck_ (Nat.ble (0 + 1) 1 && inB (i : Int) m.length && true) (some (.normal, sLt l (m.set i (UInt8.ofNat (byU l i).toNat)) (IntKind.i64.wrap ((i : Int) + 1))))))
        else ix_ i m.length (ck_ (Nat.ble (0 + 1) 1 && inB (i : Int) m.length && true) (some (.normal, sLt l (m.set i 165) (IntKind.i64.wrap ((i : Int) + 1))))))
      else some (.exit 0, sLt l m i) := by kernel_rfl
theorem idsLt : (loopsAt 7).length = 1 ∧ firstId (loopAt 7 0) = 3 ∧ loopsOf (loopAt 7 0) = [] := ⟨by kernel_rfl, by kernel_rfl, by kernel_rfl⟩
theorem set_mid (T m : List UInt8) (h : T.length = m.length) (i : Nat) (hi : i < T.length) : (T.take i ++ m.drop i).set i T[i] = T.take (i + 1) ++ m.drop (i + 1) := by
  have hlt : (T.take i).length = i := by rw [List.length_take]; omega
  rw [List.set_append, if_neg (by omega), hlt, Nat.sub_self, List.drop_eq_getElem_cons (by omega), List.set_cons_zero, List.take_succ_eq_append_getElem hi, List.append_assoc]
  rfl
theorem goLt (l m : List UInt8) (h : m.length = l.length + 8) (hb : m.length ≤ big) : Goes X0 (.loop (loopAt 7 0)) (sLt l m 0) (.exit 0) (rLt l) := by
  have hT : (l ++ A5).length = m.length := by rw [List.length_append, h]; rfl
  have hin : ∀ i, i < m.length → (Nat.ble (0 + 1) 1 && inB (i : Int) m.length && true) = true := by
    intro i hi
    unfold inB
    rw [decide_eq_true (show (0 : Int) ≤ (i : Int) by omega), decide_eq_true (show (i : Int) < (m.length : Int) by omega)]
    rfl
  have key : ∀ i, ((l ++ A5).take i ++ m.drop i).length = m.length := by intro i; rw [List.length_append, List.length_take, List.length_drop]; omega
  have hgo := all_ofD (tell0_ok _) (L := noL) (noLoops idsLt.2.2) (body := loopAt 7 0) (k := 1) (keep := [0, 3, 4]) (lose := []) (keep2 := [0, 3]) (Sf := fun i => sLt l ((l ++ A5).take i ++ m.drop i) i) (S1 := rLt l) (n := m.length) (e1 := .exit 0) (by simp) (fun i hi => ?_) ?_ ?_
  · simpa [pickR] using hgo
  · have hset := set_mid (l ++ A5) m hT i (by omega)
    rw [bLt, key, decide_eq_true (show (i : Int) < (m.length : Int) by omega), cond_true]
    by_cases hil : i < l.length
    · rw [decide_eq_true (show (i : Int) < (l.length : Int) by omega), cond_true, ix_t hil, ix_t hi, ck_t (hin i hi), wrap_nat (by omega)]
      rw [List.getElem_append_left hil] at hset
      have : UInt8.ofNat (byU l i).toNat = l[i] := by
        simp only [byU, List.getD_eq_getElem?_getD, List.getElem?_eq_getElem hil, Option.getD_some]
        simp
      rw [this, hset]
    · rw [decide_eq_false (show ¬ (i : Int) < (l.length : Int) by omega), cond_false, ix_t hi, ck_t (hin i hi), wrap_nat (by omega)]
      rw [List.getElem_append_right (by omega)] at hset
      have : ∀ j (hj : j < A5.length), A5[j] = 165 := by decide
      rw [this] at hset
      rw [hset]
  · rw [bLt, key, decide_eq_false (show ¬ (m.length : Int) < (m.length : Int) by omega)]
    rfl
  · rw [List.drop_length, List.append_nil, List.take_of_length_le (by omega)]
    rfl
def LSLt (S : St Pl) : Option (Bool × LR Pl) := match seenS 33 [0, 3, 4] S with
  | some ([.pl ⟨.bytes, l⟩ .any, .arr 8, .int .i64 (.ofNat 0)], [(8, .arr false ⟨.bytes, m⟩)]) => some (Nat.beq m.length (l.length + 8) && Nat.ble m.length big, .leaf (.exit 0) (rLt l))
  | _ => none
theorem LSLt_ok : SOk X0 (loopAt 7 0) LSLt := by
  intro S b r h hb
  unfold LSLt at h
  split at h
  · rename_i l m hs
    simp only [Option.some.injEq, Prod.mk.injEq] at h
    obtain ⟨rfl, rfl⟩ := h
    simp only [Bool.and_eq_true, Nat.ble_eq] at hb
    obtain ⟨h1, hb⟩ := hb
    refine Goes.pre (keepOf [0, 3, 4]) ?_
    rw [seenS_mask hs]
    exact goLt l m (Nat.eq_of_beq_eq_true h1) hb
  · simp at h
def wl8 (l : List UInt8) : Int := IntKind.i64.wrap ((l.length : Int) + 8)
def mkB (n : Int) : List UInt8 := List.replicate n.toNat 0
theorem eLt (l : List UInt8) : evF tell0 noTL (atL 3 LSLt noL) 1 Tryd.f7 [.pl (pBytes l) .any] =
    ck_ (true && (true && decide (0 ≤ wl8 l) && (wl8 l == wl8 l) && Nat.ble (wl8 l).toNat big)) (ck_ (Nat.beq (mkB (wl8 l)).length (l.length + 8) && Nat.ble (mkB (wl8 l)).length big)
      (ck_ (true && true && decide ((0 : Int) ≤ (l.length : Int)) && decide ((l.length : Int) ≤ ((l ++ A5).length : Int))) (some (.pl (pBytes (((l ++ A5).drop (0 : Int).toNat).take ((l.length : Int).toNat - (0 : Int).toNat))) (.spare ((l ++ A5).drop (l.length : Int).toNat)))))) := by kernel_rfl
theorem lent_sound (l : List UInt8) (hl : l.length ≤ 1000) : Snd 7 [.pl (pBytes l) .any] (.pl (pBytes l) (.spare A5)) := by
  refine snd_fn (n := 1) (tell0_ok _) (noTL_ok _ _) (fn := Tryd.f7) (by kernel_rfl) (loops_of (fn := Tryd.f7) (by kernel_rfl) (loops_1 idsLt.1 (atL_ok (fun _ => LSLt_ok) fun h => absurd idsLt.2.1 h))) ((eLt l).trans ?_)
  have hw : wl8 l = ((l.length + 8 : Nat) : Int) := by unfold wl8; rw [wrap_in _ (by omega)]; omega
  have hm : (mkB (wl8 l)).length = l.length + 8 := by unfold mkB; rw [List.length_replicate, hw]; omega
  have hbig : big = 140737488355328 := rfl
  rw [hm, hw, ck_t, ck_t, ck_t]
  · simp only [Int.toNat_natCast, Int.toNat_zero, List.drop_zero, Nat.sub_zero, List.take_left', List.drop_left']
  · rw [decide_eq_true (show (0 : Int) ≤ (l.length : Int) by omega), decide_eq_true (show (l.length : Int) ≤ ((l ++ A5).length : Int) by rw [List.length_append]; omega)]
    rfl
  · rw [Nat.beq_refl, ble_t (by omega)]; rfl
  · rw [decide_eq_true (show (0 : Int) ≤ ((l.length + 8 : Nat) : Int) by omega), beq_self_eq_true, ble_t (by omega)]; rfl
noncomputable def pLent : List (D Pl) → Option (Bool × D Pl)
  | [d] => match asBy d with
    | some l => some (Nat.ble l.length 1000, .pl (pBytes l) (.spare A5))
    | _ => none
  | _ => none
theorem pLent_ok : ∀ ds b d, pLent ds = some (b, d) → b = true → Snd 7 ds d := by
  intro ds b d h hb
  unfold pLent at h
  split at h
  · split at h
    · rename_i l hl
      simp only [Option.some.injEq, Prod.mk.injEq] at h
      obtain ⟨rfl, rfl⟩ := h
      exact (lent_sound l (by simpa using hb)).pre (.cons (asBy_rdle hl) .nil)
    · simp at h
  · simp at h

-- do they stand?

noncomputable def tSame : Eng.Told Pl := tell 13 pSame tell0
theorem tSame_ok : TOk tSame := tell_ok pSame_ok (tell0_ok _)
def sKt (z : List UInt8) (i : Int) : St Pl := mkS 29 [(4, .bool false), (5, .pl (pBytes z) .any), (6, .int .i64 i)] []
def rKt : St Pl := mkS 29 [(4, .bool false)] []
theorem bKt (z : List UInt8) (i : Nat) : evC tell0 noTL noL 1 (loopAt 14 0) [4, 5, 6] (sKt z i) =
    lt_ i z.length (ix_ i z.length (bif byU z i != 165 then some (.ret, sKt z i) else some (.normal, sKt z (IntKind.i64.wrap ((i : Int) + 1))))) (some (.exit 0, sKt z i)) := by kernel_rfl
theorem idsKt : (loopsAt 14).length = 1 ∧ firstId (loopAt 14 0) = 5 ∧ loopsOf (loopAt 14 0) = [] := ⟨by kernel_rfl, by kernel_rfl, by kernel_rfl⟩
def allK (z : List UInt8) (n : Nat) : Bool := (List.range (z.length - n)).all fun j => !(byU z (n + j) != 165)
theorem goKt (z : List UInt8) (n : Nat) (hn : n ≤ z.length) (hl : z.length ≤ big) :
    Goes X0 (.loop (loopAt 14 0)) (sKt z n) (pickR (.ite (allK z n) (.leaf (.exit 0) rKt) (.leaf .ret rKt))).1 (pickR (.ite (allK z n) (.leaf (.exit 0) rKt) (.leaf .ret rKt))).2 :=
  search_of (tell0_ok _) idsKt.2.2 (Sf := fun j => sKt z ((n + j : Nat) : Int)) (S2' := fun j => sKt z ((n + j : Nat) : Int)) (keep2 := [4]) (p := fun j => !(byU z (n + j) != 165)) (n := z.length - n) (by simp) (by simp)
    (fun j hj => by rw [bKt, lt_t (by omega), ix_t (by omega), wrap_nat (show n + j ≤ big by omega)]; cases (byU z (n + j) != 165) <;> rfl) (by rw [bKt, lt_f (by omega)]) rfl (fun i => rfl)
def LSKt (S : St Pl) : Option (Bool × LR Pl) := match seenS 29 [4, 5, 6] S with
  | some ([.bool false, .pl ⟨.bytes, z⟩ .any, .int .i64 (.ofNat n)], []) => some (Nat.ble n z.length && Nat.ble z.length big, .ite (allK z n) (.leaf (.exit 0) rKt) (.leaf .ret rKt))
  | _ => none
theorem LSKt_ok : SOk X0 (loopAt 14 0) LSKt := by
  intro S b r h hb
  unfold LSKt at h
  split at h
  · rename_i z n hs
    simp only [Option.some.injEq, Prod.mk.injEq] at h
    obtain ⟨rfl, rfl⟩ := h
    simp only [Bool.and_eq_true, Nat.ble_eq] at hb
    obtain ⟨h1, hb⟩ := hb
    refine Goes.pre (keepOf [4, 5, 6]) ?_
    rw [seenS_mask hs]
    exact goKt z n h1 hb
  · simp at h
def cutK (l : List UInt8) (w : Int) : List UInt8 := ((l ++ A5).drop (0 : Int).toNat).take (w.toNat - (0 : Int).toNat)
theorem eKt (l m : List UInt8) : evF tSame noTL (atL 5 LSKt noL) 1 Tryd.f14 [.pl (pBytes l) (.spare A5), .pl (pBytes m) .any] =
    bif !(leq l m) then some (.bool false) else ck_ ((true && true && decide (0 ≤ wl8 l) && decide (wl8 l ≤ ((l ++ A5).length : Int))) || false)
      (ck_ (Nat.ble l.length (cutK l (wl8 l)).length && Nat.ble (cutK l (wl8 l)).length big) (bif allK (cutK l (wl8 l)) l.length then some (.bool true) else some (.bool false))) := by kernel_rfl
theorem kept_sound (l : List UInt8) (hl : l.length ≤ 1000) (m : List UInt8) : Snd 14 [.pl (pBytes l) (.spare A5), .pl (pBytes m) .any] (.bool (leq l m)) := by
  refine snd_fn (n := 1) tSame_ok (noTL_ok _ _) (fn := Tryd.f14) (by kernel_rfl) (loops_of (fn := Tryd.f14) (by kernel_rfl) (loops_1 idsKt.1 (atL_ok (fun _ => LSKt_ok) fun h => absurd idsKt.2.1 h))) ((eKt l m).trans ?_)
  have hw : wl8 l = ((l.length + 8 : Nat) : Int) := by unfold wl8; rw [wrap_in _ (by omega)]; omega
  have hbig : big = 140737488355328 := rfl
  have hA : (l ++ A5).length = l.length + 8 := by rw [List.length_append]; rfl
  have hc : cutK l (wl8 l) = l ++ A5 := by
    unfold cutK
    rw [hw, Int.toNat_natCast, Int.toNat_zero, List.drop_zero, Nat.sub_zero, List.take_of_length_le (by omega)]
  have ha : allK (l ++ A5) l.length = true := by
    unfold allK
    rw [List.all_eq_true]
    intro j hj
    rw [hA] at hj
    have hj : j < 8 := by simpa using hj
    have : (l ++ A5).getD (l.length + j) 0 = 165 := by
      rw [List.getD_eq_getElem?_getD, List.getElem?_append_right (by omega), show l.length + j - l.length = j by omega]
      have : ∀ j, j < 8 → (A5[j]?).getD 0 = 165 := by decide
      exact this j hj
    simp only [byU, this]
    rfl
  rw [hc, ha, ck_t, ck_t]
  · cases leq l m <;> rfl
  · rw [hA, ble_t (by omega), ble_t (by omega)]; rfl
  · rw [hw, hA, decide_eq_true (show (0 : Int) ≤ ((l.length + 8 : Nat) : Int) by omega), decide_eq_true (Int.le_refl _)]; rfl
/-- Bytes with these behind them. -/
def asSp : D Pl → Option (List UInt8)
  | .pl ⟨.bytes, l⟩ (.spare [165, 165, 165, 165, 165, 165, 165, 165]) => some l
  | _ => none
theorem asSp_eq {d : D Pl} {l : List UInt8} (h : asSp d = some l) : d = .pl (pBytes l) (.spare A5) := by
  unfold asSp at h
  split at h
  · simp only [Option.some.injEq] at h; subst h; rfl
  · simp at h
noncomputable def pKept : List (D Pl) → Option (Bool × D Pl)
  | [a, b] => match asSp a, asBy b with
    | some l, some m => some (Nat.ble l.length 1000, .bool (leq l m))
    | _, _ => none
  | _ => none
theorem pKept_ok : ∀ ds b d, pKept ds = some (b, d) → b = true → Snd 14 ds d := by
  intro ds b d h hb
  unfold pKept at h
  split at h
  · split at h
    · rename_i l m hl hm
      simp only [Option.some.injEq, Prod.mk.injEq] at h
      obtain ⟨rfl, rfl⟩ := h
      rw [asSp_eq hl]
      exact (kept_sound l (by simpa using hb) m).pre (.cons (RDle.refl _) (.cons (asBy_rdle hm) .nil))
    · simp at h
  · simp at h
noncomputable def tLents : Eng.Told Pl := tell 7 pLent (tell 14 pKept tSame)
theorem tLents_ok : TOk tLents := tell_ok pLent_ok (tell_ok pKept_ok tSame_ok)
end Go.Proofs.YtgngobcmfflcpaaDoor

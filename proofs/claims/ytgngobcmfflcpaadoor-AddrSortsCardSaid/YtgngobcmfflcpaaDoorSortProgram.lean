/-
  addr.Sort, and the statement's own function: it answers true.
-/
import Derived.Test.YtgngobcmfflcpaaDoorTold
import Derived.Test.YtgngobcmfflcpaaDoorRefSort
namespace Go.Proofs.YtgngobcmfflcpaaDoor
open Go.Eng

set_option maxRecDepth 100000

-- addr.Sort

def sA (l : List KeyR) (m : List (KeyR × Unit)) (i : Int) : St Pl := mkS 20 [(3, .mp 6), (7, .pl (pKeys l) .any), (8, dI l.length), (9, dI i)] [(6, .map false ⟨.map .key .unit, m⟩)]
def rA (m : List (KeyR × Unit)) : St Pl := mkS 20 [(3, .mp 6)] [(6, .map false ⟨.map .key .unit, m⟩)]
theorem bA (l : List KeyR) (m : List (KeyR × Unit)) (i : Nat) : evD tell0 noTL noL 1 (loopAt 16 0) [3, 7, 8, 9] [5] (sA l m i) =
    lt_ i l.length (ix_ i l.length (some (.normal, sA l (putM (k := .key) (v := .unit) m (l.getD i default) ()) (IntKind.i64.wrap ((i : Int) + 1))))) (some (.exit 0, sA l m i)) := by kernel_rfl
theorem idsA : (loopsAt 16).length = 1 ∧ firstId (loopAt 16 0) = 3 ∧ loopsOf (loopAt 16 0) = [] := ⟨by kernel_rfl, by kernel_rfl, by kernel_rfl⟩
def LSA (S : St Pl) : Option (Bool × LR Pl) := match seenS 20 [3, 7, 8, 9] S with
  | some ([.mp 6, .pl ⟨.keys, l⟩ .any, .int .i64 k, .int .i64 (.ofNat 0)], [(6, .map false ⟨.map .key .unit, []⟩)]) => some (k == (l.length : Int) && Nat.ble l.length big, .leaf (.exit 0) (rA (mapS l)))
  | _ => none
theorem LSA_ok : SOk X0 (loopAt 16 0) LSA := by
  intro S c r h hc
  unfold LSA at h
  split at h
  · rename_i l k hs
    simp only [Option.some.injEq, Prod.mk.injEq] at h
    obtain ⟨rfl, rfl⟩ := h
    simp only [Bool.and_eq_true, Nat.ble_eq, beq_iff_eq] at hc
    obtain ⟨rfl, hb⟩ := hc
    refine Goes.pre (keepOf [3, 7, 8, 9]) ?_
    rw [seenS_mask hs]
    refine all_ofD (tell0_ok _) (k := 1) (L := noL) (noLoops idsA.2.2) (keep := [3, 7, 8, 9]) (lose := [5]) (keep2 := [3]) (Sf := fun i => sA l (mapS (l.take i)) i) (n := l.length) (by simp) (fun i hi => ?_) ?_ ?_
    · show evD tell0 noTL noL 1 (loopAt 16 0) [3, 7, 8, 9] [5] (sA l (mapS (l.take i)) i) = _
      rw [bA, lt_t hi, ix_t hi, wrap_nat (by omega), List.take_add_one, List.getElem?_eq_getElem hi, Option.toList_some]
      unfold mapS
      rw [List.foldl_append, List.getD_eq_getElem?_getD, List.getElem?_eq_getElem hi]
      rfl
    · show evD tell0 noTL noL 1 (loopAt 16 0) [3, 7, 8, 9] [5] (sA l (mapS (l.take l.length)) l.length) = _
      rw [bA, lt_f (by omega)]
    · show maskS (keepOf [3]) (sA l (mapS (l.take l.length)) l.length) = rA (mapS l)
      rw [List.take_of_length_le (Nat.le_refl _)]
      rfl
  · simp at h

noncomputable def tSF : Eng.Told Pl := tell 33 pSorted tell0
theorem tSF_ok : TOk tSF := tell_ok pSorted_ok (tell0_ok _)
theorem eA (l : List KeyR) : evF tSF noTL (atL 3 LSA noL) 2 Tryd.f16 [.pl (pKeys l) .any] =
    ck_ (((l.length : Int) == (l.length : Int)) && Nat.ble l.length big) (ck_ (Nat.ble ((mapS l).length * 72) big) (some (.pl (pKeys (sortK ((mapS l).map (·.1)))) .any))) := by kernel_rfl
theorem sort_sound (l : List KeyR) : Snd 16 [.pl (pKeys l) .any] (.pl (pKeys (docS l)) .any) := by
  refine SoundAt.rooms fun hroom => snd_fn (n := 2) tSF_ok (noTL_ok _ _) (fn := Tryd.f16) (by kernel_rfl) (loops_of (fn := Tryd.f16) (by kernel_rfl) (loops_1 idsA.1 (atL_ok (fun _ => LSA_ok) fun h => absurd idsA.2.1 h))) ((eA l).trans ?_)
  have ha : l.length * 72 ≤ big := hroom (.pl (pKeys l) .any) (by simp)
  have hm := mapS_len l
  rw [ck_t (by rw [beq_self_eq_true, ble_t (by omega)]; rfl), ck_t (ble_t (by omega)), sort_law]

-- the statement's own function

def sW (l : List KeyR) (i : Int) : St Pl := mkS 38 [(0, .pl (pKeys l) .any), (3, dI i)] []
def sWr (l : List KeyR) (i : Int) : St Pl := mkS 38 [(0, .pl (pKeys l) .any), (2, .bool true), (3, dI i)] []
noncomputable def tG : Eng.Told Pl := tell 5 (pA1 fun a => .bool (grt a)) (tAwake (tell 16 (pK1 docS) (tell 17 (pK1 docS) (tell 15 pSame tell0))))
theorem tG_ok : TOk tG := tell_ok (pA1_ok fun a => snd_of (tell0_ok _) (noTL_ok _ _) (e5 a)) (tAwake_ok (tell_ok (pK1_ok sort_sound) (tell_ok (pK1_ok refsort_sound) (tell_ok pSame_ok (tell0_ok _)))))
theorem bW (l : List KeyR) (i : Nat) : evD tG noTL noL 1 (loopAt 4 0) [0, 2, 3] [] (sW l i) =
    lt_ i l.length (ix_ i l.length (bif grt (ad0 (l.getD i default)) then some (.ret, sWr l i) else some (.normal, sW l (IntKind.i64.wrap ((i : Int) + 1))))) (some (.exit 0, sW l i)) := by kernel_rfl
theorem idsW : (loopsAt 4).length = 1 ∧ firstId (loopAt 4 0) = 4 ∧ loopsOf (loopAt 4 0) = [] := ⟨by kernel_rfl, by kernel_rfl, by kernel_rfl⟩
def rW (l : List KeyR) : St Pl := mkS 38 [(0, .pl (pKeys l) .any)] []
def rWr (l : List KeyR) : St Pl := mkS 38 [(0, .pl (pKeys l) .any), (2, .bool true)] []
def LSW (S : St Pl) : Option (Bool × LR Pl) := match seenS 38 [0, 3] S with
  | some ([.pl ⟨.keys, l⟩ .any, .int .i64 (.ofNat 0)], []) => some (Nat.ble l.length big, .ite ((List.range l.length).all fun i => !(grt (ad0 (l.getD i default)))) (.leaf (.exit 0) (rW l)) (.leaf .ret (rWr l)))
  | _ => none
theorem LSW_ok : SOk X0 (loopAt 4 0) LSW := by
  intro S c r h hc
  unfold LSW at h
  split at h
  · rename_i l hs
    simp only [Option.some.injEq, Prod.mk.injEq] at h
    obtain ⟨rfl, rfl⟩ := h
    simp only [Nat.ble_eq] at hc
    refine Goes.pre (keepOf [0, 3]) ?_
    rw [seenS_mask hs]
    refine search_ofD tG_ok idsW.2.2 (k := 1) (keep := [0, 2, 3]) (lose := []) (keep2 := [0, 2]) (Sf := fun i => sW l i) (S2' := fun i => sWr l i) (p := fun i => !(grt (ad0 (l.getD i default)))) (by simp) (by simp) (fun i hi => ?_) ?_ rfl (fun i => rfl)
    · show evD tG noTL noL 1 (loopAt 4 0) [0, 2, 3] [] (sW l i) = _
      rw [bW, lt_t hi, ix_t hi, wrap_nat (by omega)]
      cases grt (ad0 (l.getD i default)) <;> rfl
    · show evD tG noTL noL 1 (loopAt 4 0) [0, 2, 3] [] (sW l l.length) = _
      rw [bW, lt_f (by omega)]
  · simp at h

theorem eW (l : List KeyR) : evF tG noTL (atL 4 LSW noL) 1 Tryd.f4 [.pl (pKeys l) .any] =
    bif decide ((l.length : Int) > 60) then some (.bool true) else ck_ (Nat.ble l.length big) (bif (List.range l.length).all (fun i => !(grt (ad0 (l.getD i default)))) then
      ck_ (Nat.ble ((0 + l.length) * 72) big) (bif sameKs (docS l) (docS l) == true then (bif sameKs l l == true then some (.bool true) else some (.bool false)) else some (.bool false)) else some (.bool true)) := by kernel_rfl

theorem sorts_sound (l : List KeyR) : Snd 4 [.pl (pKeys l) .any] (.bool true) := by
  refine SoundAt.rooms fun hroom => snd_fn (n := 1) tG_ok (noTL_ok _ _) (fn := Tryd.f4) (by kernel_rfl) (loops_of (fn := Tryd.f4) (by kernel_rfl) (loops_1 idsW.1 (atL_ok (fun _ => LSW_ok) fun h => absurd idsW.2.1 h))) ((eW l).trans ?_)
  have ha : l.length * 72 ≤ big := hroom (.pl (pKeys l) .any) (by simp)
  rw [ck_t (ble_t (by omega)), ck_t (ble_t (by omega)), sameKs_refl, sameKs_refl]
  cases decide ((l.length : Int) > 60) <;> cases (List.range l.length).all (fun i => !(grt (ad0 (l.getD i default)))) <;> rfl
end Go.Proofs.YtgngobcmfflcpaaDoor

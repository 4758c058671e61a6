/-
  THE SCANNER READS AN EXPRESSION IN A STRING.
-/
import Derived.Test.YtmhmelmoionoiaaGreatDoorModel
import Derived.Test.YtmhmelmoionoiaaGreatDoorSign
namespace Go.Proofs.YtmhmelmoionoiaaGreatDoor
open Go.Eng

set_option maxRecDepth 100000

def pAnyQ : List (D Pl) → Option (Bool × D Pl)
  | [.str s, .str c] => some (Nat.ble s.length 100000 && c == qs, dI (Lib.indexAny s qs))
  | _ => none
theorem pAnyQ_ok : ∀ ds b d, pAnyQ ds = some (b, d) → b = true → Snd 54 ds d := by
  intro ds b d h hb
  unfold pAnyQ at h
  split at h
  · simp only [Option.some.injEq, Prod.mk.injEq] at h
    obtain ⟨rfl, rfl⟩ := h
    rw [Bool.and_eq_true, beq_iff_eq] at hb
    obtain ⟨h1, rfl⟩ := hb
    exact anyQ_sound _ (Nat.le_of_ble_eq_true h1)
  · simp at h

noncomputable def tPc : Eng.Told Pl := tell 54 pAnyQ (tellM 16 (pM pStep) tell0)
theorem tPc_ok : TOk tPc := tell_ok pAnyQ_ok (tellM_ok (pM_ok pStep_ok) (tell0_ok _))

def posW (z : Scn) : PosR := ⟨(z.p : Int), ln z.s z.p, w64 (w64 ((z.p : Int) - sn z.s z.p) + 1)⟩
def pcB (z : Scn) (n : Int) : Option (D Pl) :=
  ck_ ((decide (0 ≤ w64 ((z.p : Int) + n)) && decide (w64 ((z.p : Int) + n) < (z.s.length : Int))) || !(decide (n < 0) == false))
    (bif (bif decide (n < 0) then true else bytI z.s (w64 ((z.p : Int) + n)) != 125) then some (.env (encS z) (.tup [.agg (cPart ⟨true, [], posW z⟩), .bool false]))
      else ck_ (slO z.p (w64 ((z.p : Int) + n)) z.s.length) (ck_ (okS z.s z.p && stepOk z (w64 (n + 1))) (some (.env (encS (z.go (z.p + (w64 (n + 1)).toNat))) (.tup [.agg (cPart ⟨true, slS z.s z.p (w64 ((z.p : Int) + n)), posW z⟩), .bool true])))))
def pcA (z : Scn) : Option (D Pl) := ck_ (slO z.p (z.s.length : Int) z.s.length) (ck_ (Nat.ble (slS z.s z.p (z.s.length : Int)).length 100000 && qs == qs) (pcB z (Lib.indexAny (slS z.s z.p (z.s.length : Int)) qs)))

theorem e38n (s : Str) (p : Nat) (bad : Int) (bp : PosR) : evM tPc noTL noL 3 Tryz.f44 (decH (encS ⟨s, p, [], bad, bp⟩)) [.ptr 50000 0] = ck_ (okS s p && stepOk ⟨s, p, [], bad, bp⟩ 2) (pcA (Scn.go ⟨s, p, [], bad, bp⟩ (p + Int.toNat 2))) := by kernel_rfl
theorem e38c (s : Str) (p : Nat) (x : TokR) (l : List TokR) (bad : Int) (bp : PosR) : evM tPc noTL noL 3 Tryz.f44 (decH (encS ⟨s, p, x :: l, bad, bp⟩)) [.ptr 50000 0] = ck_ (okS s p && stepOk ⟨s, p, x :: l, bad, bp⟩ 2) (pcA (Scn.go ⟨s, p, x :: l, bad, bp⟩ (p + Int.toNat 2))) := by kernel_rfl

theorem ids38 : (loopsAt 44).length = 0 := by kernel_rfl

/-- The piece at a place; where it ends. -/
def pcP (s : Str) (p : Nat) : PartR := ⟨true, bif pcOk s p then sl s p (pcn s p) else [], posR s p⟩
def pcQ (s : Str) (p : Nat) : Nat := bif pcOk s p then p + pcn s p + 1 else p

theorem posW_eq {z : Scn} (hp : z.p ≤ z.s.length) (hl : z.s.length ≤ big) : posW z = posR z.s z.p := by
  have hbig : big = 140737488355328 := rfl
  have h := sn_in z.s z.p
  unfold posW posR
  rw [show w64 ((z.p : Int) - sn z.s z.p) = (z.p : Int) - sn z.s z.p from wrap_in _ (by omega), show w64 ((z.p : Int) - sn z.s z.p + 1) = (z.p : Int) - sn z.s z.p + 1 from wrap_in _ (by omega)]

theorem pcA_eq {z : Scn} (hp : z.p ≤ z.s.length) (hl : z.s.length ≤ 100000) : pcA z = some (.env (encS (z.go (pcQ z.s z.p))) (.tup [.agg (cPart (pcP z.s z.p)), .bool (pcOk z.s z.p)])) := by
  have hbig : big = 140737488355328 := rfl
  have hlb : z.s.length ≤ big := by omega
  unfold pcA
  have e : slS z.s z.p (z.s.length : Int) = z.s.drop z.p := by
    unfold slS
    rw [show ((z.s.length : Int)).toNat = z.s.length from rfl, show (z.p : Int).toNat = z.p from rfl]
    exact List.take_of_length_le (by simp)
  rw [ck_t (by unfold slO; rw [decide_eq_true (show (0 : Int) ≤ (z.p : Int) by omega), decide_eq_true (show (z.p : Int) ≤ (z.s.length : Int) by omega), decide_eq_true (show (z.s.length : Int) ≤ (z.s.length : Int) by omega)]; rfl), e,
    ck_t (by rw [ble_t (show (z.s.drop z.p).length ≤ 100000 by rw [List.length_drop]; omega)]; rfl)]
  have hix : Lib.indexAny (z.s.drop z.p) qs = bif Nat.blt (pcn z.s z.p) (z.s.drop z.p).length then ((pcn z.s z.p : Nat) : Int) else -1 := indexAny_ff (z.s.drop z.p)
  have hle := pcn_le z.s z.p
  have hpw := posW_eq hp hlb
  cases hb : Nat.blt (pcn z.s z.p) (z.s.drop z.p).length with
  | false =>
    have hno : pcOk z.s z.p = false := by unfold pcOk; rw [hb]; rfl
    rw [show Lib.indexAny (z.s.drop z.p) qs = -1 by rw [hix, hb]; rfl]
    unfold pcB pcP pcQ
    rw [decide_eq_true (show (-1 : Int) < 0 by decide)]
    rw [ck_t (by simp), hno, hpw]
    rfl
  | true =>
    have hlt : z.p + pcn z.s z.p < z.s.length := by
      rw [Nat.blt_eq, List.length_drop] at hb; omega
    have hw : w64 ((z.p : Int) + ((pcn z.s z.p : Nat) : Int)) = ((z.p + pcn z.s z.p : Nat) : Int) := by
      rw [show (z.p : Int) + ((pcn z.s z.p : Nat) : Int) = ((z.p + pcn z.s z.p : Nat) : Int) by omega]
      exact wrap_in _ (by omega)
    have hw2 : w64 (((pcn z.s z.p : Nat) : Int) + 1) = ((pcn z.s z.p + 1 : Nat) : Int) := wrap_nat (by omega)
    obtain ⟨q1, q2⟩ := slS_eq (s := z.s) (p := z.p) (n := pcn z.s z.p) (by omega) hlb
    have hby : bytI z.s ((z.p + pcn z.s z.p : Nat) : Int) = byt z.s (z.p + pcn z.s z.p) := rfl
    rw [show Lib.indexAny (z.s.drop z.p) qs = ((pcn z.s z.p : Nat) : Int) by rw [hix, hb]; rfl]
    unfold pcB pcP pcQ
    rw [decide_eq_false (show ¬ ((pcn z.s z.p : Nat) : Int) < 0 by omega), q1, q2, hw, hw2, hby, cond_false, decide_eq_true (show (0 : Int) ≤ ((z.p + pcn z.s z.p : Nat) : Int) by omega), decide_eq_true (show ((z.p + pcn z.s z.p : Nat) : Int) < (z.s.length : Int) by omega), ck_t (by rfl)]
    have hok : pcOk z.s z.p = (byt z.s (z.p + pcn z.s z.p) == 125) := by unfold pcOk; rw [hb]; rfl
    rw [hok, bne]
    cases byt z.s (z.p + pcn z.s z.p) == 125 with
    | false => simp only [Bool.not_false, cond_true, cond_false]; rw [hpw]; rfl
    | true =>
      simp only [Bool.not_true, cond_true, cond_false]
      rw [ck_t rfl, ck_t (by
        rw [okS_t, Bool.true_and]
        unfold stepOk
        rw [decide_eq_true (by omega), ble_t (show z.p + ((pcn z.s z.p + 1 : Nat) : Int).toNat ≤ z.s.length by omega), ble_t hlb]; rfl), hpw]
      rfl

theorem pieces (z : Scn) (hp : z.p + 2 ≤ z.s.length) (hl : z.s.length ≤ 100000) :
    SndS 44 z [] (.tup [.agg (cPart (pcP z.s (z.p + 2))), .bool (pcOk z.s (z.p + 2))]) (z.go (pcQ z.s (z.p + 2))) := by
  have hbig : big = 140737488355328 := rfl
  have hL := loops_of (f := 44) (fn := Tryz.f44) (by kernel_rfl) (loops_0 ids38 (L := noL))
  have key : ck_ (okS z.s z.p && stepOk z 2) (pcA (z.go (z.p + Int.toNat 2))) = some (.env (encS (z.go (pcQ z.s (z.p + 2)))) (.tup [.agg (cPart (pcP z.s (z.p + 2))), .bool (pcOk z.s (z.p + 2))])) := by
    rw [ck_t (by
      rw [okS_t, Bool.true_and]
      unfold stepOk
      rw [decide_eq_true (by omega), ble_t (show z.p + (2 : Int).toNat ≤ z.s.length by show z.p + 2 ≤ _; exact hp), ble_t (by omega)]; rfl)]
    exact pcA_eq (z := z.go (z.p + 2)) hp hl
  obtain ⟨s, p, toks, bad, bp⟩ := z
  cases toks with
  | nil => exact snd_m (n := 3) tPc_ok (noTL_ok _ _) (fn := Tryz.f44) (by kernel_rfl) hL ((e38n s p bad bp).trans key)
  | cons x l => exact snd_m (n := 3) tPc_ok (noTL_ok _ _) (fn := Tryz.f44) (by kernel_rfl) hL ((e38c s p x l bad bp).trans key)

def pPiece (z : Scn) : List (D Pl) → Option (Bool × D Pl × Scn)
  | [] => some (Nat.ble (z.p + 2) z.s.length && Nat.ble z.s.length 100000, .tup [.agg (cPart (pcP z.s (z.p + 2))), .bool (pcOk z.s (z.p + 2))], z.go (pcQ z.s (z.p + 2)))
  | _ => none
theorem pPiece_ok : ∀ z args c d z', pPiece z args = some (c, d, z') → c = true → SndS 44 z args d z' := by
  intro z args c d z' h hc
  unfold pPiece at h
  split at h
  · simp only [Option.some.injEq, Prod.mk.injEq] at h
    obtain ⟨rfl, rfl, rfl⟩ := h
    simp only [Bool.and_eq_true, Nat.ble_eq] at hc
    exact pieces z hc.1 hc.2
  · simp at h

end Go.Proofs.YtmhmelmoionoiaaGreatDoor

/-
  WHAT A STRING's TEXT IS PUT INTO ITS PARTS BY.
-/

namespace Go.Proofs.YtmhmelmoionoiaaGreatDoor
open Go.Eng

set_option maxRecDepth 100000

def flE (b : Str) (out : List PartR) : List (D Pl) := match b, out with
  | [], [] => [.obB 50000 [.nilS], .obB 50001 [.nilS]]
  | x :: b, [] => [.obB 50000 [.arr 100000], .obB 50001 [.nilS], .obA 100000 ⟨.bytes, x :: b⟩]
  | [], y :: l => [.obB 50000 [.nilS], .obB 50001 [.arr 101000], .obA 101000 ⟨.parts, y :: l⟩]
  | x :: b, y :: l => [.obB 50000 [.arr 100000], .obB 50001 [.arr 101000], .obA 100000 ⟨.bytes, x :: b⟩, .obA 101000 ⟨.parts, y :: l⟩]

def flD : List (D Pl) → Option (Str × List PartR)
  | [.obB 50000 [.nilS], .obB 50001 [.nilS]] => some ([], [])
  | [.obB 50000 [.arr 100000], .obB 50001 [.nilS], .obA 100000 ⟨.bytes, x :: b⟩] => some (x :: b, [])
  | [.obB 50000 [.nilS], .obB 50001 [.arr 101000], .obA 101000 ⟨.parts, y :: l⟩] => some ([], y :: l)
  | [.obB 50000 [.arr 100000], .obB 50001 [.arr 101000], .obA 100000 ⟨.bytes, x :: b⟩, .obA 101000 ⟨.parts, y :: l⟩] => some (x :: b, y :: l)
  | _ => none

theorem flD_eq {os : List (D Pl)} {b : Str} {out : List PartR} (h : flD os = some (b, out)) : os = flE b out := by
  unfold flD at h
  split at h <;> simp only [Option.some.injEq, Prod.mk.injEq, reduceCtorEq] at h
  all_goals
    obtain ⟨rfl, rfl⟩ := h
    rfl

def flR (b : Str) (out : List PartR) : Option (D Pl) := bif decide (((b.length : Nat) : Int) > 0) then some (.env (flE [] (fl out b)) (.tup [])) else some (.env (flE b out) (.tup []))

theorem f0 : evM tell0 noTL noL 3 Tryz.f42 (decH (flE [] [])) [.ptr 50000 0, .ptr 50001 0] = some (.env (flE [] []) (.tup [])) := by kernel_rfl
theorem f1 (x : UInt8) (b : Str) : evM tell0 noTL noL 3 Tryz.f42 (decH (flE (x :: b) [])) [.ptr 50000 0, .ptr 50001 0] = flR (x :: b) [] := by kernel_rfl
theorem f2 (y : PartR) (l : List PartR) : evM tell0 noTL noL 3 Tryz.f42 (decH (flE [] (y :: l))) [.ptr 50000 0, .ptr 50001 0] = some (.env (flE [] (y :: l)) (.tup [])) := by kernel_rfl
theorem f3 (x : UInt8) (b : Str) (y : PartR) (l : List PartR) : evM tell0 noTL noL 3 Tryz.f42 (decH (flE (x :: b) (y :: l))) [.ptr 50000 0, .ptr 50001 0] =
    bif decide ((((x :: b).length : Nat) : Int) > 0) then ck_ (Nat.ble (((y :: l).length + 1) * 48) big) (some (.env (flE [] (y :: (l ++ [⟨false, x :: b, ⟨0, 0, 0⟩⟩]))) (.tup []))) else some (.env (flE (x :: b) (y :: l)) (.tup [])) := by kernel_rfl

theorem ids36 : (loopsAt 42).length = 0 := by kernel_rfl

theorem flush (b : Str) (out : List PartR) (h : (out.length + 1) * 48 ≤ big) : SndM 42 (decH (flE b out)) [.ptr 50000 0, .ptr 50001 0] (.tup []) (decH (flE [] (fl out b))) := by
  have hL := loops_of (f := 42) (fn := Tryz.f42) (by kernel_rfl) (loops_0 ids36 (L := noL))
  have hpos : ∀ (x : UInt8) (b : Str), decide ((((x :: b).length : Nat) : Int) > 0) = true := fun x b => decide_eq_true (by simp only [List.length_cons]; omega)
  cases b with
  | nil =>
    cases out with
    | nil => exact snd_m (n := 3) (tell0_ok _) (noTL_ok _ _) (fn := Tryz.f42) (by kernel_rfl) hL f0
    | cons y l => exact snd_m (n := 3) (tell0_ok _) (noTL_ok _ _) (fn := Tryz.f42) (by kernel_rfl) hL (f2 y l)
  | cons x b =>
    cases out with
    | nil => exact snd_m (n := 3) (tell0_ok _) (noTL_ok _ _) (fn := Tryz.f42) (by kernel_rfl) hL ((f1 x b).trans (by unfold flR; rw [hpos]; rfl))
    | cons y l =>
      refine snd_m (n := 3) (tell0_ok _) (noTL_ok _ _) (fn := Tryz.f42) (by kernel_rfl) hL ((f3 x b y l).trans ?_)
      rw [hpos, cond_true, ck_t (ble_t h)]
      rfl

def pFlush (os ds : List (D Pl)) : Option (Bool × D Pl × List (D Pl)) := match flD os, ds with
  | some (b, out), [.ptr 50000 0, .ptr 50001 0] => some (Nat.ble ((out.length + 1) * 48) big, .tup [], flE [] (fl out b))
  | _, _ => none
theorem pFlush_ok : ∀ os ds b d os', pFlush os ds = some (b, d, os') → b = true → SndM 42 (decH os) ds d (decH os') := by
  intro os ds c d os' h hc
  unfold pFlush at h
  split at h
  · rename_i b out hd
    simp only [Option.some.injEq, Prod.mk.injEq] at h
    obtain ⟨rfl, rfl, rfl⟩ := h
    rw [flD_eq hd]
    exact flush b out (Nat.le_of_ble_eq_true hc)
  · simp at h

noncomputable def tBd : Eng.Told Pl := tellM 42 pFlush (tellM 44 (pM pPiece) (tellM 16 (pM pStep) (tPre (tell 43 (pU8 fun c => .tup [.int .u8 (escV c), .bool (escB c)]) tell0))))
theorem tBd_ok : TOk tBd := tellM_ok pFlush_ok (tellM_ok (pM_ok pPiece_ok) (tellM_ok (pM_ok pStep_ok) (tPre_ok (tell_ok (pU8_ok esc_sound) (tell0_ok _)))))

end Go.Proofs.YtmhmelmoionoiaaGreatDoor

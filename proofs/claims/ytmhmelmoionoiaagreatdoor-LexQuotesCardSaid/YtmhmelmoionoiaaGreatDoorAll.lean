/-
  ALL TOKENS OF A TEXT: the loop's rounds.
-/
import Derived.Test.YtmhmelmoionoiaaGreatDoorText
namespace Go.Proofs.YtmhmelmoionoiaaGreatDoor
open Go.Eng

set_option maxRecDepth 100000

-- the classes

def lettersS : Str := [97, 98, 99, 100, 101, 102, 103, 104, 105, 106, 107, 108, 109, 110, 111, 112, 113, 114, 115, 116, 117, 118, 119, 120, 121, 122, 95]
def digitsS : Str := [48, 49, 50, 51, 52, 53, 54, 55, 56, 57]

theorem of1 : ev tell0 noTL 3 10 [.str lettersS] = some (.agg [.int .u64 0, .int .u64 576460745860972544]) := by kernel_rfl
theorem of2 : ev tell0 noTL 3 10 [.str (lettersS ++ digitsS)] = some (.agg [.int .u64 287948901175001088, .int .u64 576460745860972544]) := by kernel_rfl
theorem of3 : ev tell0 noTL 3 10 [.str digitsS] = some (.agg [.int .u64 287948901175001088, .int .u64 0]) := by kernel_rfl

def pOf : List (D Pl) → Option (Bool × D Pl)
  | [.str l] => bif Nat.beq l.length 27 then some (l == lettersS, .agg [.int .u64 0, .int .u64 576460745860972544]) else bif Nat.beq l.length 37 then some (l == lettersS ++ digitsS, .agg [.int .u64 287948901175001088, .int .u64 576460745860972544])
    else some (l == digitsS, .agg [.int .u64 287948901175001088, .int .u64 0])
  | _ => none
theorem pOf_ok : ∀ ds b d, pOf ds = some (b, d) → b = true → Snd 10 ds d := by
  intro ds b d h hb
  unfold pOf at h
  split at h
  · rename_i l
    cases h1 : Nat.beq l.length 27 with
    | true =>
      rw [h1] at h
      simp only [cond_true, Option.some.injEq, Prod.mk.injEq] at h
      obtain ⟨rfl, rfl⟩ := h
      rw [beq_iff_eq] at hb
      subst hb
      exact snd_of (tell0_ok _) (noTL_ok _ _) of1
    | false =>
      rw [h1] at h
      cases h2 : Nat.beq l.length 37 with
      | true =>
        rw [h2] at h
        simp only [cond_true, cond_false, Option.some.injEq, Prod.mk.injEq] at h
        obtain ⟨rfl, rfl⟩ := h
        rw [beq_iff_eq] at hb
        subst hb
        exact snd_of (tell0_ok _) (noTL_ok _ _) of2
      | false =>
        rw [h2] at h
        simp only [cond_false, Option.some.injEq, Prod.mk.injEq] at h
        obtain ⟨rfl, rfl⟩ := h
        rw [beq_iff_eq] at hb
        subst hb
        exact snd_of (tell0_ok _) (noTL_ok _ _) of3
  · simp at h

def pToken (z : Scn) : List (D Pl) → Option (Bool × D Pl × Scn)
  | [] => some (Nat.ble z.p z.s.length && (Nat.ble z.s.length 100000 && Nat.ble z.toks.length 100000), .tup [], z.tokd)
  | _ => none
theorem pToken_ok : ∀ z args c d z', pToken z args = some (c, d, z') → c = true → SndS 13 z args d z' := by
  intro z args c d z' h hc
  unfold pToken at h
  split at h
  · simp only [Option.some.injEq, Prod.mk.injEq] at h
    obtain ⟨rfl, rfl, rfl⟩ := h
    simp only [Bool.and_eq_true, Nat.ble_eq] at hc
    exact tokens z hc.1 hc.2.1 hc.2.2
  · simp at h

noncomputable def tAl : Eng.Told Pl := tellM 12 (pM pBlank) (tellM 13 (pM pToken) (tell 10 pOf tell0))
theorem tAl_ok : TOk tAl := tellM_ok (pM_ok pBlank_ok) (tellM_ok (pM_ok pToken_ok) (tell_ok pOf_ok (tell0_ok _)))

def encA (z : Scn) : Obs Pl := match z.toks with
  | [] => [(10, .box false (bxc z.s z.p (ln z.s z.p) (sn z.s z.p) (tailD .nilS z.bad z.bp)))]
  | t :: l => [(10, .box false (bxc z.s z.p (ln z.s z.p) (sn z.s z.p) (tailD (.arr 10010010) z.bad z.bp))), (10010010, .arr false ⟨.toks, t :: l⟩)]
def dgC (e : Int) (q : PosR) : List (D Pl) := [dI e, dI q.at', dI q.line, dI q.col, .str []]
def sA (z : Scn) (d : List (D Pl)) : St Pl := mkS 58 [(2, .nilS), (3, .ptr 3 0), (4, .ptr 10 0)] (encA z ++ [(3, .box false d)])

def lastK (l : List TokR) : Int := (l.getD (w64 ((l.length : Int) - 1)).toNat default).kind
def q0 : PosR := ⟨0, 0, 0⟩
def aE (z : Scn) : Option (Ex × St Pl) := bif z.bad != 0 then some (.ret, sA z (dgC z.bad z.bp)) else some (.normal, sA z (dgC 0 q0))
def pickA (x : Option (Ex × St Pl)) : Ex × St Pl := x.getD (.ret, ⟨[], []⟩)
def aT (z : Scn) : Option (Ex × St Pl) := ck_ (okS z.s z.p && (Nat.ble z.p z.s.length && (Nat.ble z.s.length 100000 && Nat.ble z.toks.length 100000))) (aE z.tokd)
def aR (z : Scn) : Option (Ex × St Pl) := ck_ (okS z.s z.p && (Nat.ble z.p z.s.length && Nat.ble z.s.length big)) (aT (z.go (blankM z.s z.p)))
def aB (z : Scn) : Option (Ex × St Pl) := match z.toks with
  | [] => aR z
  | x :: l => ck_ ((decide (0 ≤ w64 (((x :: l).length : Int) - 1)) && decide (w64 (((x :: l).length : Int) - 1) < ((x :: l).length : Int))) || !((((x :: l).length : Int) == 0) == false))
    (bif lastK (x :: l) != 0 then aR z else some (.exit 0, sA z (dgC 0 q0)))

noncomputable abbrev evA (S : St Pl) := evX tAl noTL noL 4 (loopAt 6 0) [2, 3, 4] [] [(10, 10, 10010010)] [10, 10010010, 3] S
theorem b7n (s : Str) (p : Nat) (bad : Int) (bp : PosR) : evA (sA ⟨s, p, [], bad, bp⟩ (dgC 0 q0)) = aB ⟨s, p, [], bad, bp⟩ := by kernel_rfl
theorem b7c (s : Str) (p : Nat) (x : TokR) (l : List TokR) (bad : Int) (bp : PosR) : evA (sA ⟨s, p, x :: l, bad, bp⟩ (dgC 0 q0)) = aB ⟨s, p, x :: l, bad, bp⟩ := by kernel_rfl
theorem ids7 : (loopsAt 6).length = 1 ∧ firstId (loopAt 6 0) = 4 ∧ loopsOf (loopAt 6 0) = [] := ⟨by kernel_rfl, by kernel_rfl, by kernel_rfl⟩

theorem goA (z : Scn) {e : Ex} {S : St Pl} (h : aB z = some (e, S)) : Goes X0 (loopAt 6 0) (sA z (dgC 0 q0)) e S := by
  obtain ⟨s, p, toks, bad, bp⟩ := z
  cases toks with
  | nil => exact goes_ofX tAl_ok (noTL_ok _ _) (noLoops ids7.2.2) ((b7n s p bad bp).trans h)
  | cons x l => exact goes_ofX tAl_ok (noTL_ok _ _) (noLoops ids7.2.2) ((b7c s p x l bad bp).trans h)

theorem lastK_app (l : List TokR) (t : TokR) (h : l.length ≤ 100001) : lastK (l ++ [t]) = t.kind := by
  unfold lastK
  have hw : w64 (((l ++ [t]).length : Int) - 1) = (l.length : Int) := by
    rw [List.length_append, List.length_singleton, show ((l.length + 1 : Nat) : Int) - 1 = (l.length : Int) by omega]
    exact wrap_in _ (by omega)
  rw [hw, Int.toNat_natCast, List.getD_eq_getElem?_getD, List.getElem?_append_right (Nat.le_refl _), Nat.sub_self]
  rfl

theorem aB_go {z : Scn} (h : z.toks = [] ∨ (lastK z.toks != 0) = true) (hn : z.toks.length ≤ 100000) : aB z = aR z := by
  unfold aB
  cases ht : z.toks with
  | nil => rfl
  | cons x l =>
    rw [ht] at h hn
    have h1 : (lastK (x :: l) != 0) = true := by
      rcases h with h | h
      · cases h
      · exact h
    simp only
    have hlen : (x :: l).length = l.length + 1 := rfl
    have hw : w64 (((x :: l).length : Int) - 1) = (l.length : Int) := by
      rw [hlen, show ((l.length + 1 : Nat) : Int) - 1 = (l.length : Int) by omega]
      exact wrap_in _ (by omega)
    rw [hw, h1, ck_t (by rw [decide_eq_true (show (0 : Int) ≤ (l.length : Int) by omega), decide_eq_true (show (l.length : Int) < ((x :: l).length : Int) by omega)]; rfl)]
    rfl
theorem aB_end {z : Scn} (h0 : z.toks ≠ []) (h : (lastK z.toks != 0) = false) (hn : z.toks.length ≤ 100001) : aB z = some (.exit 0, sA z (dgC 0 q0)) := by
  unfold aB
  cases ht : z.toks with
  | nil => exact absurd ht h0
  | cons x l =>
    rw [ht] at h hn
    simp only
    have hlen : (x :: l).length = l.length + 1 := rfl
    have hw : w64 (((x :: l).length : Int) - 1) = (l.length : Int) := by
      rw [hlen, show ((l.length + 1 : Nat) : Int) - 1 = (l.length : Int) by omega]
      exact wrap_in _ (by omega)
    rw [hw, h, ck_t (by rw [decide_eq_true (show (0 : Int) ≤ (l.length : Int) by omega), decide_eq_true (show (l.length : Int) < ((x :: l).length : Int) by omega)]; rfl)]
    rfl

theorem aR_eq {z : Scn} (hp : z.p ≤ z.s.length) (hl : z.s.length ≤ 90000) (ht : z.toks.length ≤ 100000) : aR z = aE (z.go (blankM z.s z.p)).tokd := by
  have hbig : big = 140737488355328 := rfl
  have hb := blankM_in z.s _ z.p rfl hp
  unfold aR aT
  rw [ck_t (by rw [okS_t, ble_t hp, ble_t (by omega)]; rfl), ck_t (by rw [okS_t, ble_t (show (z.go (blankM z.s z.p)).p ≤ (z.go (blankM z.s z.p)).s.length from hb.2), ble_t (show (z.go (blankM z.s z.p)).s.length ≤ 100000 by show z.s.length ≤ _; omega), ble_t (show (z.go (blankM z.s z.p)).toks.length ≤ 100000 from ht)]; rfl)]

def sE (e : Int) (q : PosR) : St Pl := mkS 58 [(2, .nilS), (3, .ptr 3 0)] [(3, .box false (dgC e q))]
theorem wE (z : Scn) (e : Int) (q : PosR) : normS (keepOf [2, 3]) (keepOf [10, 10010010]) (sA z (dgC e q)) = sE e q := by
  obtain ⟨s, p, toks, bad, bp⟩ := z
  cases toks <;> rfl

theorem allK_any {s : Str} {p : Nat} (k k' : Nat) (acc : List TokR) (hp : p ≤ s.length) (h : s.length - p < k) (h' : s.length - p < k') : allK k s p acc = allK k' s p acc := by
  obtain ⟨l, e, bp, h1, h2⟩ := allK_to s k p acc hp h
  rw [h2, to_allK h1 hp k' acc h']

/-- What the loop comes to. -/
def aRes (z : Scn) : Ex × St Pl := bif (allK (z.s.length - z.p + 1) z.s z.p z.toks).bad == 0 then (.exit 0, sA ⟨z.s, z.s.length, (allK (z.s.length - z.p + 1) z.s z.p z.toks).l, 0, q0⟩ (dgC 0 q0))
  else (.ret, sE (allK (z.s.length - z.p + 1) z.s z.p z.toks).bad (allK (z.s.length - z.p + 1) z.s z.p z.toks).bp)

theorem tokO_end (s : Str) : tokO s s.length = ⟨tok0 s s.length, s.length, 0⟩ := by
  unfold tokO
  rw [Nat.beq_refl]; rfl

theorem loopA (z : Scn) (hz : z.bad = 0) (hq : z.bp = q0) (hp : z.p ≤ z.s.length) (hl : z.s.length ≤ 90000) (ht : z.toks = []) : Goes X0 (.loop (loopAt 6 0)) (sA z (dgC 0 q0)) (aRes z).1 (aRes z).2 := by
  refine loop_run (A := Bool × Scn) (Sf := fun a => sA a.2 (dgC 0 q0))
    (fun a => a.2.bad = 0 ∧ a.2.bp = q0 ∧ a.2.p ≤ a.2.s.length ∧ a.2.s.length ≤ 90000 ∧ (a.1 = true → a.2.p = a.2.s.length ∧ a.2.toks ≠ [] ∧ (lastK a.2.toks != 0) = false ∧ a.2.toks.length ≤ 100001) ∧ (a.1 = false → a.2.toks.length ≤ a.2.p ∧ (a.2.toks = [] ∨ (lastK a.2.toks != 0) = true)))
    (fun a => bif a.1 then 0 else a.2.s.length - a.2.p + 1) (fun a => bif a.1 then (.exit 0, sA a.2 (dgC 0 q0)) else aRes a.2) ?_ (false, z) ⟨hz, hq, hp, hl, fun h => by simp at h, fun _ => ⟨by rw [ht]; exact Nat.zero_le _, .inl ht⟩⟩
  rintro ⟨d, z⟩ ⟨hz, hq, hp, hl, h1, h2⟩
  simp only at hz hq hp hl h1 h2 ⊢
  cases d with
  | true =>
    obtain ⟨_, h3, h4, h5⟩ := h1 rfl
    exact .inr ⟨by simp, goA z (aB_end h3 h4 h5)⟩
  | false =>
    obtain ⟨h3, h4⟩ := h2 rfl
    have hgo := goA z (e := (pickA (aE (z.go (blankM z.s z.p)).tokd)).1) (S := (pickA (aE (z.go (blankM z.s z.p)).tokd)).2) (by
      rw [aB_go h4 (by omega), aR_eq hp hl (by omega)]
      unfold aE
      cases (z.go (blankM z.s z.p)).tokd.bad != 0 <;> rfl)
    have hb := blankM_in z.s _ z.p rfl hp
    obtain ⟨s, p, toks, bad, bp⟩ := z
    simp only at hz hq hp hl h3 h4 hb
    subst hz hq
    have hstep : allK (s.length - p + 1) s p toks = bif !((tokO s (blankM s p)).e == 0) then ⟨[], (tokO s (blankM s p)).e, posR s (blankM s p)⟩
      else bif (tokO s (blankM s p)).t.kind == 0 then ⟨toks ++ [(tokO s (blankM s p)).t], 0, ⟨0, 0, 0⟩⟩
      else allK (s.length - p) s (tokO s (blankM s p)).q (toks ++ [(tokO s (blankM s p)).t]) := rfl
    have hbad : (Scn.tokd ⟨s, blankM s p, toks, 0, q0⟩) = ⟨s, (tokO s (blankM s p)).q, toks ++ [(tokO s (blankM s p)).t], (tokO s (blankM s p)).e, bif (tokO s (blankM s p)).e == 0 then q0 else posR s (blankM s p)⟩ := by
      unfold Scn.tokd Scn.past Scn.app Scn.go Scn.fail
      cases he : (tokO s (blankM s p)).e == 0 with
      | true => rw [beq_iff_eq] at he; simp only [he, cond_true]
      | false => rfl
    have hgo : Goes X0 (loopAt 6 0) (sA ⟨s, p, toks, 0, q0⟩ (dgC 0 q0)) (pickA (aE (Scn.tokd ⟨s, blankM s p, toks, 0, q0⟩))).1 (pickA (aE (Scn.tokd ⟨s, blankM s p, toks, 0, q0⟩))).2 := hgo
    rw [hbad] at hgo
    unfold aE at hgo
    simp only at hgo
    cases he : (tokO s (blankM s p)).e == 0 with
    | false =>
      rw [he] at hstep hgo
      have hne : ((tokO s (blankM s p)).e != 0) = true := by rw [bne, he]; rfl
      rw [hne] at hgo
      have hr : aRes ⟨s, p, toks, 0, q0⟩ = (.ret, sE (tokO s (blankM s p)).e (posR s (blankM s p))) := by
        unfold aRes
        simp only [hstep, Bool.not_false, cond_true, he, cond_false]
      refine .inr ⟨by show (aRes _).1 ≠ _; rw [hr]; simp, ?_⟩
      show Goes X0 _ _ (aRes _).1 (aRes _).2
      rw [hr]
      have := hgo.norm xok (keepOf [2, 3]) (keepOf [10, 10010010])
      simp only [cond_true, cond_false, pickA, Option.getD_some] at this
      rwa [wE] at this
    | true =>
      have hne : ((tokO s (blankM s p)).e != 0) = false := by rw [bne, he]; rfl
      rw [hne] at hgo
      rw [he] at hstep hgo
      have he0 : (tokO s (blankM s p)).e = 0 := by simpa using he
      rw [he0] at hgo
      simp only [cond_true, cond_false, pickA, Option.getD_some] at hgo
      obtain ⟨k1, _, k2⟩ := tokO_in hb.2 he
      have hlast := lastK_app toks (tokO s (blankM s p)).t (by omega)
      rcases k2 with ⟨k2, k3⟩ | ⟨k2, k3⟩
      · rw [k2] at hstep
        have hq : (tokO s (blankM s p)).q = s.length := by rw [k3, tokO_end]
        refine .inl ⟨(true, ⟨s, (tokO s (blankM s p)).q, toks ++ [(tokO s (blankM s p)).t], 0, q0⟩), ⟨rfl, rfl, k1, hl, fun _ => ⟨hq, by simp, ?_, ?_⟩, fun h => by simp at h⟩, by simp, ?_, hgo⟩
        · show (lastK (toks ++ _) != 0) = false
          rw [hlast, bne, k2]; rfl
        · show (toks ++ _).length ≤ _
          rw [List.length_append, List.length_singleton]; omega
        · show aRes _ = (.exit 0, _)
          unfold aRes
          simp only [hstep, Bool.not_true, cond_false, cond_true, hq]
          rfl
      · rw [k2] at hstep
        refine .inl ⟨(false, ⟨s, (tokO s (blankM s p)).q, toks ++ [(tokO s (blankM s p)).t], 0, q0⟩), ⟨rfl, rfl, k1, hl, fun h => by simp at h, fun _ => ⟨?_, .inr ?_⟩⟩, ?_, ?_, hgo⟩
        · show (toks ++ _).length ≤ (tokO s (blankM s p)).q
          rw [List.length_append, List.length_singleton]; omega
        · show (lastK (toks ++ _) != 0) = true
          rw [hlast, bne, k2]; rfl
        · show s.length - (tokO s (blankM s p)).q + 1 < s.length - p + 1
          omega
        · show aRes _ = aRes _
          unfold aRes
          simp only [hstep, Bool.not_true, cond_false]
          rw [allK_any (s.length - p) (s.length - (tokO s (blankM s p)).q + 1) _ k1 (by omega) (by omega)]

end Go.Proofs.YtmhmelmoionoiaaGreatDoor

/-
  ALL TOKENS OF A TEXT: the contract.
-/

namespace Go.Proofs.YtmhmelmoionoiaaGreatDoor
open Go.Eng

set_option maxRecDepth 100000

def is0 : List (D Pl) → Bool
  | [.int .i64 a, .int .i64 b, .int .i64 c, .int .i64 d, .str []] => (a == 0 && b == 0) && (c == 0 && d == 0)
  | _ => false
theorem is0_eq {l : List (D Pl)} (h : is0 l = true) : l = dgC 0 q0 := by
  unfold is0 at h
  split at h
  · simp only [Bool.and_eq_true, beq_iff_eq] at h
    obtain ⟨⟨rfl, rfl⟩, rfl, rfl⟩ := h
    rfl
  · simp at h
def decA : List (D Pl) → Option (Bool × Str)
  | [.str s, .int .i64 a, .int .i64 b, .int .i64 c, .int .u64 d1, .int .u64 d2, .int .u64 d3, .int .u64 d4, .int .u64 d5, .int .u64 d6, .nilS, .int .i64 e1, .int .i64 e2, .int .i64 e3, .int .i64 e4, .str []] =>
    some (((a == 0 && b == 1) && (c == 0 && (d1 == 0 && d6 == 0))) && (((d2 == cF && d3 == cN) && (d4 == cF && d5 == cN)) && ((e1 == 0 && e2 == 0) && (e3 == 0 && e4 == 0))), s)
  | _ => none
theorem decA_eq {l : List (D Pl)} {b : Bool} {s : Str} (h : decA l = some (b, s)) (hb : b = true) : l = bxc s ((0 : Nat) : Int).toNat (ln s 0) (sn s 0) (tailD .nilS 0 q0) := by
  unfold decA at h
  split at h
  · simp only [Option.some.injEq, Prod.mk.injEq] at h
    obtain ⟨rfl, rfl⟩ := h
    simp only [Bool.and_eq_true, beq_iff_eq] at hb
    obtain ⟨⟨⟨rfl, rfl⟩, rfl, rfl, rfl⟩, ⟨⟨rfl, rfl⟩, rfl, rfl⟩, ⟨rfl, rfl⟩, rfl, rfl⟩ := hb
    rfl
  · simp at h

def rA (s : Str) : LR Pl := .ite ((allK (s.length + 1) s 0 []).bad == 0)
  (.leaf (.exit 0) (mkS 58 [(2, .nilS), (3, .ptr 3 0), (4, .ptr 10 0)] [(10, .box false (bxc s s.length (ln s s.length) (sn s s.length) (tailD (.arr 10010010) 0 q0))), (10010010, .arr false ⟨.toks, (allK (s.length + 1) s 0 []).l⟩), (3, .box false (dgC 0 q0))]))
  (.leaf .ret (sE (allK (s.length + 1) s 0 []).bad (allK (s.length + 1) s 0 []).bp))

theorem rA_eq (s : Str) : pickR (rA s) = aRes ⟨s, 0, [], 0, q0⟩ := by
  unfold rA aRes
  simp only [Nat.sub_zero]
  obtain ⟨l, e, bp, h1, h2⟩ := allK_to s (s.length + 1) 0 [] (Nat.zero_le _) (by omega)
  rw [h2]
  cases he : e == 0 with
  | true =>
    rw [beq_iff_eq] at he
    subst he
    have := (lexTo_zero h1).2
    cases l with
    | nil => exact absurd rfl this
    | cons x r => rfl
  | false => simp only [pickR, cond_false]

def LSA (S : St Pl) : Option (Bool × LR Pl) := match seenS 58 [2, 3, 4] S with
  | some ([.nilS, .ptr 3 0, .ptr 10 0], [(10, .box false c10), (3, .box false c3)]) => match decA c10 with
    | some (c, s) => some ((c && is0 c3) && Nat.ble s.length 90000, rA s)
    | none => none
  | _ => none

theorem LSA_ok : SOk X0 (loopAt 6 0) LSA := by
  intro S b r h hb
  unfold LSA at h
  split at h
  · rename_i c10 c3 hs
    split at h
    · rename_i c s hd
      simp only [Option.some.injEq, Prod.mk.injEq] at h
      obtain ⟨rfl, rfl⟩ := h
      simp only [Bool.and_eq_true, Nat.ble_eq] at hb
      obtain ⟨⟨rfl, h1⟩, h2⟩ := hb
      refine Goes.pre (keepOf [2, 3, 4]) ?_
      rw [seenS_mask hs, decA_eq hd rfl, is0_eq h1, rA_eq]
      exact loopA ⟨s, 0, [], 0, q0⟩ rfl rfl (Nat.zero_le _) h2 rfl
    · simp at h
  · simp at h

def ansA (l : D Pl) (e : Int) (q : PosR) : Option (D Pl) := some (.tup [l, .agg (dgC e q)])
def alF (s : Str) : Option (D Pl) := bif decide ((s.length : Int) > 32768) then ansA .nilS 3 (posW ⟨s, 0, [], 0, q0⟩)
  else ck_ (Nat.ble s.length 90000) (bif (allK (s.length + 1) s 0 []).bad == 0 then ansA (.pl ⟨.toks, (allK (s.length + 1) s 0 []).l⟩ .any) 0 q0 else ansA .nilS (allK (s.length + 1) s 0 []).bad (allK (s.length + 1) s 0 []).bp)

theorem e7 (s : Str) : evF tAl noTL (atL 4 LSA noL) 4 Tryz.f6 [.str s] = alF s := by kernel_rfl

abbrev pToks (l : List TokR) : Pl := ⟨.toks, l⟩

theorem all_sound (s : Str) : Snd 6 [.str s] (.tup [.pl (pToks (allM s).l) .any, .agg (dgC (allM s).bad (allM s).bp)]) := by
  have hL := loops_of (f := 6) (fn := Tryz.f6) (by kernel_rfl) (loops_1 ids7.1 (L := atL 4 LSA noL) (atL_ok (fun _ => LSA_ok) fun h => absurd ids7.2.1 h))
  have key : ∃ d, alF s = some d ∧ RDle X0.C d (.tup [.pl (pToks (allM s).l) .any, .agg (dgC (allM s).bad (allM s).bp)]) := by
    have hle : ∀ (l : List TokR) (e : Int) (q : PosR), l = [] → RDle X0.C (.tup [.nilS, .agg (dgC e q)]) (.tup [.pl (pToks l) .any, .agg (dgC e q)]) := fun l e q h =>
      RDle.tup (.cons (RDle.of (by subst h; exact .nil _ rfl)) (.cons (RDle.refl _) .nil))
    unfold alF allM
    by_cases h : 32768 < s.length
    · rw [decide_eq_true (show (s.length : Int) > 32768 by omega), blt_t h]
      exact ⟨_, rfl, hle [] 3 _ rfl⟩
    · rw [decide_eq_false (show ¬ (s.length : Int) > 32768 by omega), blt_f h, cond_false, cond_false, ck_t (ble_t (by omega))]
      obtain ⟨l, e, bp, h1, h2⟩ := allK_to s (s.length + 1) 0 [] (Nat.zero_le _) (by omega)
      rw [h2]
      cases he : e == 0 with
      | true =>
        rw [beq_iff_eq] at he
        subst he
        obtain ⟨rfl, _⟩ := lexTo_zero h1
        exact ⟨_, rfl, RDle.refl _⟩
      | false =>
        simp only [cond_false]
        exact ⟨_, rfl, hle [] e bp rfl⟩
  obtain ⟨d, h1, h2⟩ := key
  have ho : isOw (D.tup [.pl (pToks (allM s).l) .any, .agg (dgC (allM s).bad (allM s).bp)] : D Pl) = false := rfl
  exact SoundAt.post h2 (snd_fn (n := 4) tAl_ok (noTL_ok _ _) (fn := Tryz.f6) (by kernel_rfl) hL ((e7 s).trans h1)) ho

def pAll : List (D Pl) → Option (Bool × D Pl)
  | [.str s] => some (true, .tup [.pl (pToks (allM s).l) .any, .agg (dgC (allM s).bad (allM s).bp)])
  | _ => none
theorem pAll_ok : ∀ ds b d, pAll ds = some (b, d) → b = true → Snd 6 ds d := by
  intro ds b d h hb
  unfold pAll at h
  split at h
  · simp only [Option.some.injEq, Prod.mk.injEq] at h
    obtain ⟨_, rfl⟩ := h
    exact all_sound _
  · simp at h

end Go.Proofs.YtmhmelmoionoiaaGreatDoor

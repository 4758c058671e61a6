/-
  TEXTS OF ADDRESSES: Parse, by the program and by the document.
-/
import Derived.Test.YtlfohmdclcdejaaDoorAddrB
namespace Go.Proofs.YtlfohmdclcdejaaDoor
open Go.Eng
open Nu (parseV refParseV back isD dec_ok byt_get parse_eq dgs)

set_option maxRecDepth 100000

def prA (p : KeyR × Int) : D Pl := .tup [.agg (cAd p.1), dI p.2]
def zz : Option (D Pl) := some (.tup [.agg (cAd kZ), dI 4])
def pB (c : KeyR) (s : Str) : Option (D Pl) := bif ((bif okA c then (0 : Int) else 1) != 0) == false then ck_ (smA c) (bif !(printV c == s) then zz else some (.tup [.agg (cAd c), dI 0])) else zz

theorem e20p (s : Str) : ev (tPa tell0) noTL 3 20 [.str s] = bif (Lib.cut s [91]).2.2 then pB (ad0 (lastV (cand0 s) (Lib.trimSuffix (Lib.cut s [91]).2.1 [93]))) s else pB (cand0 s) s := by kernel_rfl

theorem spelt_len {P : Int → Bool} {s : Str} (h : spelt P s = true) : s.length ≤ 24 := by
  unfold spelt at h
  cases hb : lenBad s with
  | true => rw [hb] at h; cases h
  | false =>
    unfold lenBad at hb
    cases he : s == [] with
    | true => rw [he] at hb; cases hb
    | false =>
      rw [he, cond_false] at hb
      have := of_decide_eq_false hb
      omega

theorem nameV_len {s : Str} (h : nameV s = true) : s.length ≤ 24 := by
  unfold nameV at h
  cases hs : spelt nameB s with
  | true => exact spelt_len hs
  | false => rw [hs] at h; cases h

theorem okA_sm {a : KeyR} (h : okA a = true) : smA a = true := by
  obtain ⟨h1, h2, h3⟩ := okA_cases h
  have l1 := nameV_len h1
  have l2 := nameV_len h2
  have l3 : a.k.length ≤ 24 := by
    rcases h3 with ⟨_, _, hk⟩ | ⟨_, _, _, hk⟩ | ⟨_, _, hk⟩
    · rw [hk]; simp
    · rw [hk]; simp
    · exact spelt_len hk
  unfold smA
  rw [ble_t (show a.ty.length ≤ 1000 by omega), ble_t (show a.name.length ≤ 1000 by omega), ble_t (show a.k.length ≤ 1000 by omega)]; rfl

theorem pB_eq (c : KeyR) (s : Str) : pB c s = some (prA (bif (bif okA c then printV c == s else false) then (c, 0) else (kZ, 4))) := by
  unfold pB
  cases h : okA c with
  | false => rfl
  | true =>
    rw [okA_sm h]
    cases printV c == s <;> rfl

theorem parse_sound (s : Str) : Snd 20 [.str s] (prA (parse1 s)) := by
  refine snd_of (tPa_ok (tell0_ok _)) (noTL_ok _ _) ((e20p s).trans ?_)
  rw [pB_eq, pB_eq]
  have h := ad0_cand1 s
  unfold parse1
  unfold cand1 at h ⊢
  cases hc : (Lib.cut s [91]).2.2 with
  | false => rfl
  | true =>
    rw [hc] at h
    simp only [cond_true] at h ⊢
    rw [h]

-- the document's

def s21 (cs : List (D Pl)) (s : Str) (d o i : Int) : St Pl := mkS 108 [(0, .str s), (2, .ptr 2 0), (3, dI 0), (4, dI d), (5, dI o), (6, dI i)] [(2, .box false cs)]
def r21 (cs : List (D Pl)) (s : Str) (d o : Int) : St Pl := mkS 108 [(0, .str s), (2, .ptr 2 0), (3, dI 0), (4, dI d), (5, dI o)] [(2, .box false cs)]
def x21 (cs : List (D Pl)) (s : Str) (d o : Int) (i : Nat) : Option (Ex × St Pl) := ix_ i s.length (bif (bif byt s i == 91 then decide (o < 0) else false) then some (.normal, s21 cs s d (i : Int) (IntKind.i64.wrap ((i : Int) + 1))) else some (.normal, s21 cs s d o (IntKind.i64.wrap ((i : Int) + 1))))

theorem b21 (cs : List (D Pl)) (s : Str) (d o : Int) (i : Nat) : evC tell0 noTL noL 1 (loopAt 21 0) [0, 2, 3, 4, 5, 6] (s21 cs s d o i) =
    lt_ i s.length (ix_ i s.length (bif (bif byt s i == 46 then decide (d < 0) else false) then x21 cs s (i : Int) o i else x21 cs s d o i)) (some (.exit 0, s21 cs s d o i)) := by kernel_rfl
theorem ids21 : (loopsAt 21).length = 1 ∧ firstId (loopAt 21 0) = 3 ∧ loopsOf (loopAt 21 0) = [] := ⟨by kernel_rfl, by kernel_rfl, by kernel_rfl⟩

def LS21 (S : St Pl) : Option (Bool × LR Pl) := match seenS 108 [0, 2, 3, 4, 5, 6] S with
  | some ([.str s, .ptr 2 0, .int .i64 (.ofNat 0), .int .i64 (.negSucc 0), .int .i64 (.negSucc 0), .int .i64 (.ofNat 0)], [(2, .box false cs)]) => some (Nat.ble s.length big, .leaf (.exit 0) (r21 cs s (fsI s 46 s.length) (fsI s 91 s.length)))
  | _ => none

theorem LS21_ok : SOk X0 (loopAt 21 0) LS21 := by
  intro S b r h hb
  unfold LS21 at h
  split at h
  · rename_i s cs hs
    simp only [Option.some.injEq, Prod.mk.injEq] at h
    obtain ⟨rfl, rfl⟩ := h
    rw [Nat.ble_eq] at hb
    refine Goes.pre (keepOf [0, 2, 3, 4, 5, 6]) ?_
    rw [seenS_mask hs]
    have hR := tell0_ok X0
    refine loop_all (Sf := fun i => s21 cs s (fsI s 46 i) (fsI s 91 i) i) (n := s.length) (by simp) (fun i hi => ?_) ?_
    · refine goes_of (keep := [0, 2, 3, 4, 5, 6]) hR (noTL_ok _ _) (noLoops ids21.2.2) ((b21 cs s (fsI s 46 i) (fsI s 91 i) i).trans ?_)
      unfold x21
      rw [lt_t hi, ix_t hi, ix_t hi, ix_t hi, wrap_nat (show i ≤ big by omega)]
      simp only [fsI]
      cases (bif byt s i == 46 then decide (fsI s 46 i < 0) else false) <;> cases (bif byt s i == 91 then decide (fsI s 91 i < 0) else false) <;> rfl
    · have := (goes_of (keep := [0, 2, 3, 4, 5, 6]) (S' := s21 cs s (fsI s 46 s.length) (fsI s 91 s.length) s.length) hR (noTL_ok _ _) (noLoops ids21.2.2) ((b21 cs s (fsI s 46 s.length) (fsI s 91 s.length) s.length).trans (by
        rw [lt_f (by omega)]))).post (keepOf [0, 2, 3, 4, 5])
      exact this
  · simp at h

end Go.Proofs.YtlfohmdclcdejaaDoor

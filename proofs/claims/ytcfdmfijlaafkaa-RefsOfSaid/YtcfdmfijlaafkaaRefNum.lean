/-
  TEXTS OF NUMBERS: what the document's Parse computes.
-/
import Derived.Test.YtcfdmfijlaafkaaLib
namespace Go.Proofs.Ytcfdmfijlaafkaa.Nu
open Go.Eng

set_option maxRecDepth 100000

abbrev w64 (z : Int) : Int := IntKind.u64.wrap z
abbrev i64 (z : Int) : Int := IntKind.i64.wrap z
def prT (p : Int × Int) : D Pl := .tup [dI p.1, dI p.2]
def badD (c : Int) : Bool := bif decide (c < 48) then true else decide (c > 57)
def allB (P : Int → Bool) (s : Str) : Bool := (List.range s.length).all fun i => P (byt s i)
def digB (s : Str) : Bool := allB (fun c => !(badD c)) s
def t1 (s : Str) : Str := List.take (((s.length : Int)).toNat - Int.toNat 1) (List.drop (Int.toNat 1) s)

theorem t1_eq (s : Str) : t1 s = s.drop 1 := by
  unfold t1
  rw [show Int.toNat 1 = 1 from rfl, show ((s.length : Int)).toNat = s.length from rfl]
  exact List.take_of_length_le (by simp)

theorem t1_len (s : Str) : (t1 s).length = s.length - 1 := by rw [t1_eq, List.length_drop]

def s18a (e : Int) (b : Bool) (d : Str) (i : Int) : St Pl := mkS 90 [(2, dI 0), (3, dI e), (4, .bool b), (5, .str d), (6, dI i)] []
def r18a (e : Int) (b : Bool) (d : Str) : St Pl := mkS 90 [(2, dI 0), (3, dI e), (4, .bool b), (5, .str d)] []

theorem b18a (b : Bool) (d : Str) (i : Nat) : evC tell0 noTL noL 1 (loopAt 26 0) [2, 3, 4, 5, 6] (s18a 0 b d i) =
    lt_ i d.length (ix_ i d.length (ixo_ i d.length (decide (byt d i < 48) == false) (bif badD (byt d i) then some (.ret, s18a 4 b d i) else some (.normal, s18a 0 b d (IntKind.i64.wrap ((i : Int) + 1)))))) (some (.exit 0, s18a 0 b d i)) := by kernel_rfl
theorem ids18 : (loopsAt 26).length = 2 ∧ firstId (loopAt 26 0) = 8 ∧ loopsOf (loopAt 26 0) = [] ∧ firstId (loopAt 26 1) = 14 ∧ loopsOf (loopAt 26 1) = [] := ⟨by kernel_rfl, by kernel_rfl, by kernel_rfl, by kernel_rfl, by kernel_rfl⟩

def LS18a (S : St Pl) : Option (Bool × LR Pl) := match seenS 90 [2, 3, 4, 5, 6] S with
  | some ([.int .i64 (.ofNat 0), .int .i64 (.ofNat 0), .bool b, .str d, .int .i64 (.ofNat 0)], []) => some (Nat.ble d.length big, .ite (digB d) (.leaf (.exit 0) (r18a 0 b d)) (.leaf .ret (r18a 4 b d)))
  | _ => none

theorem LS18a_ok : SOk X0 (loopAt 26 0) LS18a := by
  intro S b r h hb
  unfold LS18a at h
  split at h
  · rename_i c d hs
    simp only [Option.some.injEq, Prod.mk.injEq] at h
    obtain ⟨rfl, rfl⟩ := h
    rw [Nat.ble_eq] at hb
    refine Goes.pre (keepOf [2, 3, 4, 5, 6]) ?_
    rw [seenS_mask hs]
    exact search_of (tell0_ok _) ids18.2.2.1 (Sf := fun i => s18a 0 c d i) (S2' := fun i => s18a 4 c d i) (keep2 := [2, 3, 4, 5]) (p := fun i => !(badD (byt d i))) (by simp) (by simp)
      (fun i hi => by
        rw [b18a, lt_t hi, ix_t hi, wrap_nat (show i ≤ big by omega), ixo_t hi]
        cases badD (byt d i) <;> rfl) (by rw [b18a, lt_f (by omega)]) rfl (fun i => rfl)
  · simp at h

def cv (d : Str) (i : Nat) : Int := w64 (IntKind.u8.wrap (byt d i - 48))
def uAt (d : Str) : Nat → Int
  | 0 => 0
  | i + 1 => w64 (w64 (uAt d i * 10) + cv d i)
def tooU (d : Str) (u : Int) : Bool := bif decide ((d.length : Int) > 19) then true else decide (u > 922337203685477580)
def fitU (d : Str) : Bool := (List.range d.length).all fun i => !(tooU d (uAt d i))

def s18b (e : Int) (b : Bool) (d : Str) (u : Int) (i : Int) : St Pl := mkS 90 [(2, dI 0), (3, dI e), (4, .bool b), (5, .str d), (7, .int .u64 u), (8, dI i)] []
def r18b (b : Bool) (u : Int) : St Pl := mkS 90 [(4, .bool b), (7, .int .u64 u)] []
def r18c : St Pl := mkS 90 [(2, dI 0), (3, dI 6)] []

theorem b18b (b : Bool) (d : Str) (u : Int) (i : Nat) : evC tell0 noTL noL 1 (loopAt 26 1) [2, 3, 4, 5, 7, 8] (s18b 0 b d u i) =
    lt_ i d.length (ix_ i d.length (bif tooU d u then some (.ret, s18b 6 b d u i) else some (.normal, s18b 0 b d (w64 (w64 (u * 10) + cv d i)) (IntKind.i64.wrap ((i : Int) + 1))))) (some (.exit 2, s18b 0 b d u i)) := by kernel_rfl

def LS18b (S : St Pl) : Option (Bool × LR Pl) := match seenS 90 [2, 3, 4, 5, 7, 8] S with
  | some ([.int .i64 (.ofNat 0), .int .i64 (.ofNat 0), .bool b, .str d, .int .u64 (.ofNat 0), .int .i64 (.ofNat 0)], []) => some (Nat.ble d.length big, .ite (fitU d) (.leaf (.exit 2) (r18b b (uAt d d.length))) (.leaf .ret r18c))
  | _ => none

theorem LS18b_ok : SOk X0 (loopAt 26 1) LS18b := by
  intro S b r h hb
  unfold LS18b at h
  split at h
  · rename_i c d hs
    simp only [Option.some.injEq, Prod.mk.injEq] at h
    obtain ⟨rfl, rfl⟩ := h
    rw [Nat.ble_eq] at hb
    refine Goes.pre (keepOf [2, 3, 4, 5, 7, 8]) ?_
    rw [seenS_mask hs]
    have hR := tell0_ok X0
    refine loop_search (Sf := fun i => s18b 0 c d (uAt d i) i) (p := fun i => !(tooU d (uAt d i))) (by simp) (by simp) (fun i hi hp => ?_) (fun i hi hp => ?_) ?_
    · refine goes_of (keep := [2, 3, 4, 5, 7, 8]) hR (noTL_ok _ _) (noLoops ids18.2.2.2.2) ((b18b c d (uAt d i) i).trans ?_)
      rw [lt_t hi, ix_t hi, wrap_nat (show i ≤ big by omega), show tooU d (uAt d i) = false by simpa using hp]
      rfl
    · have := (goes_of (keep := [2, 3, 4, 5, 7, 8]) (S' := s18b 6 c d (uAt d i) i) hR (noTL_ok _ _) (noLoops ids18.2.2.2.2) ((b18b c d (uAt d i) i).trans (by
        rw [lt_t hi, ix_t hi, show tooU d (uAt d i) = true by simpa using hp]; rfl))).post (keepOf [2, 3])
      exact this
    · have := (goes_of (keep := [2, 3, 4, 5, 7, 8]) (S' := s18b 0 c d (uAt d d.length) d.length) hR (noTL_ok _ _) (noLoops ids18.2.2.2.2) ((b18b c d (uAt d d.length) d.length).trans (by
        rw [lt_f (by omega)]))).post (keepOf [4, 7])
      exact this
  · simp at h

def neg0 (s : Str) : Bool := bif decide ((s.length : Int) > 0) then byt s 0 == 45 else false
def zl (b : Bool) (d : Str) : Bool := bif d == [] then true else bif byt d 0 == 48 then (bif b then true else decide ((d.length : Int) > 1)) else false
def fin (b : Bool) (u : Int) : Option (D Pl) := bif (bif b then decide (u ≤ 9223372036854775808) else false) then some (.tup [dI (i64 (w64 (0 - u))), dI 0])
  else bif (bif b then true else decide (u > 9223372036854775807)) then some (.tup [dI 0, dI 6]) else some (.tup [dI (i64 u), dI 0])
def rest (b : Bool) (d : Str) : Option (D Pl) := ck_ ((true && decide ((0 : Int) < (d.length : Int))) || !((d == []) == false)) (bif zl b d then some (.tup [dI 0, dI 4])
  else ck_ (Nat.ble d.length big) (bif digB d then ck_ (Nat.ble d.length big) (bif fitU d then fin b (uAt d d.length) else some (.tup [dI 0, dI 6])) else some (.tup [dI 0, dI 4])))

theorem e18 (s : Str) : evF tell0 noTL (atL 8 LS18a (atL 14 LS18b noL)) 1 Try.f26 [.str s] = ck_ ((true && decide ((0 : Int) < (s.length : Int))) || !(decide ((s.length : Int) > 0) == true))
    (bif neg0 s then ck_ ((true && decide ((1 : Int) ≤ (s.length : Int)) && decide ((s.length : Int) ≤ (s.length : Int))) || false) (rest (neg0 s) (t1 s)) else rest (neg0 s) s) := by kernel_rfl

def finV (b : Bool) (u : Int) : Int × Int := bif (bif b then decide (u ≤ 9223372036854775808) else false) then (i64 (w64 (0 - u)), 0) else bif (bif b then true else decide (u > 9223372036854775807)) then (0, 6) else (i64 u, 0)
def restV (b : Bool) (d : Str) : Int × Int := bif zl b d then (0, 4) else bif digB d then (bif fitU d then finV b (uAt d d.length) else (0, 6)) else (0, 4)
def refParseV (s : Str) : Int × Int := restV (neg0 s) (bif neg0 s then t1 s else s)

theorem rest_eq {b : Bool} {d : Str} (h : d.length ≤ big) : rest b d = some (prT (restV b d)) := by
  unfold rest
  rw [ck_t (by
    cases d with
    | nil => rfl
    | cons a r => rw [decide_eq_true (show (0 : Int) < ((a :: r).length : Int) by simp only [List.length_cons]; omega)]; rfl), ck_t (ble_t h), ck_t (ble_t h)]
  unfold restV fin finV
  generalize (bif b then decide (uAt d d.length ≤ 9223372036854775808) else false) = x
  generalize (bif b then true else decide (uAt d d.length > 9223372036854775807)) = y
  cases zl b d <;> cases digB d <;> cases fitU d <;> cases x <;> cases y <;> rfl

theorem refParse_sound (s : Str) : Snd 26 [.str s] (prT (refParseV s)) := by
  refine SoundAt.rooms fun hroom => snd_fn (n := 1) (tell0_ok _) (noTL_ok _ _) (fn := Try.f26) (by kernel_rfl) (loops_of (fn := Try.f26) (by kernel_rfl)
    (loops_2 ids18.1 (atL_ok (fun _ => LS18a_ok) fun h => absurd ids18.2.1 h) (atL_ok (fun h => absurd (h.symm.trans ids18.2.2.2.1) (by decide)) fun _ => atL_ok (fun _ => LS18b_ok) fun h => absurd ids18.2.2.2.1 h))) ((e18 s).trans ?_)
  have h1 : s.length ≤ big := hroom (.str s) (by simp)
  have h2 : (t1 s).length ≤ big := by rw [t1_len]; omega
  rw [rest_eq h1, rest_eq h2, ck_t (by
    by_cases h : s.length > 0
    · rw [decide_eq_true (show (0 : Int) < (s.length : Int) by omega)]; rfl
    · rw [decide_eq_false (show ¬ (s.length : Int) > 0 by omega)]; cases decide ((0 : Int) < (s.length : Int)) <;> rfl)]
  unfold refParseV
  cases hn : neg0 s with
  | false => rfl
  | true =>
    have hl : s.length > 0 := by
      unfold neg0 at hn
      by_cases h : s.length > 0
      · exact h
      · rw [decide_eq_false (show ¬ (s.length : Int) > 0 by omega)] at hn; cases hn
    rw [ck_t (by rw [decide_eq_true (show (1 : Int) ≤ (s.length : Int) by omega), decide_eq_true (show (s.length : Int) ≤ (s.length : Int) by omega)]; rfl)]
    rfl

end Go.Proofs.Ytcfdmfijlaafkaa.Nu

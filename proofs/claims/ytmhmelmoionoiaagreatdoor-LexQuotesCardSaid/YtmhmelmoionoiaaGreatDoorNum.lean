/-
  NUMBERS IN TEXTS: the library's ParseInt, in the engine's words; the program's Parse.
-/
import Derived.Test.YtmhmelmoionoiaaGreatDoorLook
import Derived.Test.YtmhmelmoionoiaaGreatDoorShelf
import Derived.Lib.AtoiErrMem
import Derived.Lib.ParseIntBTie
namespace Go.Proofs.YtmhmelmoionoiaaGreatDoor.Nu
open Go.Eng

set_option maxRecDepth 100000

abbrev u64 (z : Int) : Int := IntKind.u64.wrap z
theorem wu (n : Int) : u64 n = n % 18446744073709551616 := by simp [u64, IntKind.wrap, IntKind.bits, IntKind.signed]

theorem ifa_at {w : World} {av : Nat → Prop} (h : GlobOk X0.C X0.glob w av) {g : Nat} (hg : X0.glob g = some [.ifa]) : ∃ t v, w.cell? ⟨g, 0, none⟩ = some (.iface t v) := by
  obtain ⟨hr, _⟩ := h g _ hg
  generalize hp : Value.pointer (some ⟨g, 0, none⟩) = p at hr
  cases hr with
  | ref _ _ _ vs _ hc _ hrd =>
    cases hp
    have h1 := hc 0 _ rfl
    have h2 := hrd 0 _ rfl
    generalize vs 0 = v at h1 h2
    cases h2
    exact ⟨_, _, h1⟩

/-- ParseInt(s, 10, 64), where it answers without an error; with one: its number. -/
def pOk (s : Str) : Bool := match Lib.parseIntB 64 s with
  | .ok _ => true
  | _ => false
def pVal (s : Str) : Int := match Lib.parseIntB 64 s with
  | .ok v => v
  | .range => Lib.intSat 64 s
  | _ => 0

theorem pVal_in (s : Str) : inR .i64 (pVal s) = true := by
  have key : -9223372036854775808 ≤ pVal s ∧ pVal s ≤ 9223372036854775807 := by
    unfold pVal
    split
    · rename_i v h
      unfold Lib.parseIntB at h
      split at h
      · cases h
      · simp only at h
        split at h
        · cases h
        · cases h
        · rename_i u _
          split at h
          · cases h
          · split at h
            · cases h
            · rename_i h1 h2
              simp only [Lib.NumEnd.ok.injEq] at h
              subst h
              split
              · rename_i h3; rw [h3] at h2; simp at h2; omega
              · rename_i h3; simp only [h3, not_false_eq_true, true_and] at h1; simp at h1; omega
    · unfold Lib.intSat; split <;> omega
    · omega
  simp only [inR, Bool.and_eq_true]
  exact ⟨decide_eq_true key.1, decide_eq_true key.2⟩

theorem parse_args {w : World} {av : Nat → Prop} {s : Str} {vs : Array Value} (hs : vs.size = 3) (hr : ∀ (i : Nat) v c, vs[i]? = some v → [(.str s : D Pl), dI 10, dI 64][i]? = some c → RD X0.C (cx0 w av) v c) :
    ∃ b : ByteArray, vs = #[.string b, .int .i64 10, .int .i64 64] ∧ b.data.toList = s ∧ b.size ≤ 140737488355328 := by
  obtain ⟨v0, v1, v2, rfl⟩ : ∃ v0 v1 v2, vs = #[v0, v1, v2] := by
    obtain ⟨l⟩ := vs
    match l, hs with
    | [a, b, c], _ => exact ⟨a, b, c, rfl⟩
  have h0 := hr 0 _ _ rfl rfl
  have h1 := hr 1 _ _ rfl rfl
  have h2 := hr 2 _ _ rfl rfl
  cases h1; cases h2
  cases h0 with
  | str b l h hl => exact ⟨b, rfl, h, by rw [← h, Array.length_toList] at hl; exact hl⟩

theorem parse_ok (s : Str) (h : pOk s = true) : Snd 41 [.str s, dI 10, dI 64] (.tup [dI (pVal s), .nilI]) := by
  refine snd_calls Tryz.func41 (by kernel_rfl) (by kernel_rfl) rfl fun w av vs hg hs hr => ?_
  obtain ⟨b, rfl, rfl, hb⟩ := parse_args hs hr
  obtain ⟨v, hv⟩ : ∃ v, Lib.parseIntB 64 b.data.toList = .ok v := by
    unfold pOk at h
    split at h
    · exact ⟨_, by assumption⟩
    · cases h
  have hp : pVal b.data.toList = v := by unfold pVal; rw [hv]
  have hin := pVal_in b.data.toList
  rw [hp] at hin ⊢
  refine (Any.strconv_ParseInt_10_at64_ok Tryz.laysC174 b (by omega) v hv w).mono fun e w' ⟨he, hw⟩ => ⟨_, he, ?_, ?_⟩
  · refine .tup _ _ rfl fun i v' c h1 h2 => ?_
    match i, h1, h2 with
    | 0, h1, h2 => simp at h1 h2; subst h1 h2; exact .int _ _ hin
    | 1, h1, h2 => simp at h1 h2; subst h1 h2; exact .nilI
    | i + 2, h1, h2 => simp at h2
  · rcases hw with rfl | ⟨t, rfl⟩
    · exact RowKit.Below.refl _ _
    · exact Lib.bytesWorld_below _ _ _

theorem parse_no (s : Str) (h : pOk s = false) : Snd 41 [.str s, dI 10, dI 64] (.tup [dI (pVal s), .ifa]) := by
  refine snd_calls Tryz.func41 (by kernel_rfl) (by kernel_rfl) rfl fun w av vs hg hs hr => ?_
  obtain ⟨b, rfl, rfl, hb⟩ := parse_args hs hr
  have hin := pVal_in b.data.toList
  have fin : ∀ {t : TypeId} {v : Value} {x : Int} {w' : World}, pVal b.data.toList = x → RD X0.C (cx0 w' av) (.tuple #[.int .i64 x, .iface t v]) (.tup [dI (pVal b.data.toList), .ifa]) := by
    intro t v x w' hx
    subst hx
    refine .tup _ _ rfl fun i v' c h1 h2 => ?_
    match i, h1, h2 with
    | 0, h1, h2 => simp at h1 h2; subst h1 h2; exact .int _ _ hin
    | 1, h1, h2 => simp at h1 h2; subst h1 h2; exact .ifa _ _
    | i + 2, h1, h2 => simp at h2
  cases hv : Lib.parseIntB 64 b.data.toList with
  | ok v => unfold pOk at h; rw [hv] at h; cases h
  | range =>
    obtain ⟨t, v, hc⟩ := ifa_at hg (g := 2) rfl
    refine (Any.strconv_ParseInt_10_at64_range Tryz.laysC174 b (by omega) hv _ w hc (Or.inr ⟨_, _, rfl⟩)).mono fun e w' ⟨N, he, _, _, hw⟩ => ⟨_, he, fin ?_, hw⟩
    unfold pVal; rw [hv]
  | _ =>
    obtain ⟨t, v, hc⟩ := ifa_at hg (g := 1) rfl
    refine (Any.strconv_ParseInt_10_at64_syntax Tryz.laysC174 b (by omega) hv _ w hc (Or.inr ⟨_, _, rfl⟩)).mono fun e w' ⟨N, he, _, _, hw⟩ => ⟨_, he, fin ?_, hw⟩
    unfold pVal; rw [hv]

def badD (c : Int) : Bool := bif decide (c < 48) then true else decide (c > 57)
def allB (P : Int → Bool) (s : Str) : Bool := (List.range s.length).all fun i => P (byt s i)
def digB (s : Str) : Bool := allB (fun c => !(badD c)) s

def s32 (s : Str) (i : Int) : St Pl := mkS 45 [(0, .str s), (2, .bool false), (30, dI s.length), (31, dI i)] []
def r32 : St Pl := mkS 45 [(2, .bool false)] []

theorem b32 (s : Str) (i : Nat) : evC tell0 noTL noL 1 (loopAt 40 0) [0, 2, 30, 31] (s32 s i) =
    lt_ i s.length (ix_ i s.length (ixo_ i s.length (decide (byt s i < 48) == false) (bif badD (byt s i) then some (.ret, s32 s i) else some (.normal, s32 s (IntKind.i64.wrap ((i : Int) + 1)))))) (some (.exit 0, s32 s i)) := by kernel_rfl
theorem ids32 : (loopsAt 40).length = 1 ∧ firstId (loopAt 40 0) = 8 ∧ loopsOf (loopAt 40 0) = [] := ⟨by kernel_rfl, by kernel_rfl, by kernel_rfl⟩

def LS32 (S : St Pl) : Option (Bool × LR Pl) := match seenS 45 [0, 2, 30, 31] S with
  | some ([.str s, .bool false, .int .i64 n, .int .i64 (.ofNat 0)], []) => some (n == (s.length : Int) && Nat.ble s.length big, .ite (digB s) (.leaf (.exit 0) r32) (.leaf .ret r32))
  | _ => none

theorem LS32_ok : SOk X0 (loopAt 40 0) LS32 := by
  intro S b r h hb
  unfold LS32 at h
  split at h
  · rename_i s n hs
    simp only [Option.some.injEq, Prod.mk.injEq] at h
    obtain ⟨rfl, rfl⟩ := h
    simp only [Bool.and_eq_true, Nat.ble_eq, beq_iff_eq] at hb
    obtain ⟨rfl, hb⟩ := hb
    refine Goes.pre (keepOf [0, 2, 30, 31]) ?_
    rw [seenS_mask hs]
    exact search_of (tell0_ok _) ids32.2.2 (Sf := fun i => s32 s i) (S2' := fun i => s32 s i) (keep2 := [2]) (p := fun i => !(badD (byt s i))) (by simp) (by simp)
      (fun i hi => by
        rw [b32, lt_t hi, ix_t hi, wrap_nat (show i ≤ big by omega), ixo_t hi]
        cases badD (byt s i) <;> rfl) (by rw [b32, lt_f (by omega)]) rfl (fun i => rfl)
  · simp at h

def t1 (s : Str) : Str := List.take (((s.length : Int)).toNat - Int.toNat 1) (List.drop (Int.toNat 1) s)
theorem t1_eq (s : Str) : t1 s = s.drop 1 := by
  unfold t1
  rw [show Int.toNat 1 = 1 from rfl, show ((s.length : Int)).toNat = s.length from rfl]
  exact List.take_of_length_le (by simp)

def negW (s : Str) : Bool := bif decide ((s.length : Int) > 1) then byt s 0 == 45 else false
def zeroL (s : Str) : Bool := bif s == [] then true else bif byt s 0 == 48 then decide ((s.length : Int) > 1) else false
def restW (s : Str) : Option (D Pl) := ck_ ((true && decide ((0 : Int) < (s.length : Int))) || !((s == []) == false)) (bif zeroL s then some (.bool false) else ck_ (((s.length : Int) == (s.length : Int)) && Nat.ble s.length big) (bif digB s then some (.bool true) else some (.bool false)))
theorem e32 (s : Str) : evF tell0 noTL (atL 8 LS32 noL) 1 Tryz.f40 [.str s] = ck_ ((true && decide ((0 : Int) < (s.length : Int))) || !(decide ((s.length : Int) > 1) == true))
    (bif negW s then ck_ ((true && decide ((1 : Int) ≤ (s.length : Int)) && decide ((s.length : Int) ≤ (s.length : Int))) || false) (ck_ ((true && decide ((0 : Int) < ((t1 s).length : Int))) || false) (bif byt (t1 s) 0 == 48 then some (.bool false) else restW (t1 s))) else restW s) := by kernel_rfl

def wholeV (s : Str) : Bool := bif negW s then (bif byt (t1 s) 0 == 48 then false else bif zeroL (t1 s) then false else digB (t1 s)) else bif zeroL s then false else digB s

theorem restW_eq {s : Str} (h : s.length ≤ big) : restW s = some (.bool (bif zeroL s then false else digB s)) := by
  unfold restW
  rw [ck_t (by
    cases s with
    | nil => rfl
    | cons a r => rw [decide_eq_true (show (0 : Int) < ((a :: r).length : Int) by simp only [List.length_cons]; omega)]; rfl),
    ck_t (by rw [ble_t h, beq_self_eq_true]; rfl)]
  cases zeroL s <;> cases digB s <;> rfl

theorem t1_len (s : Str) : (t1 s).length = s.length - 1 := by rw [t1_eq, List.length_drop]

theorem whole_sound (s : Str) : Snd 40 [.str s] (.bool (wholeV s)) := by
  refine SoundAt.rooms fun hroom => snd_fn (n := 1) (tell0_ok _) (noTL_ok _ _) (fn := Tryz.f40) (by kernel_rfl) (loops_of (fn := Tryz.f40) (by kernel_rfl) (loops_1 ids32.1 (atL_ok (fun _ => LS32_ok) fun h => absurd ids32.2.1 h))) ((e32 s).trans ?_)
  have h1 : s.length ≤ big := hroom (.str s) (by simp)
  have h2 : (t1 s).length ≤ big := by rw [t1_len]; omega
  rw [restW_eq h1, restW_eq h2, ck_t (by
    by_cases h : s.length > 1
    · rw [decide_eq_true (show (0 : Int) < (s.length : Int) by omega)]; rfl
    · rw [decide_eq_false (show ¬ (s.length : Int) > 1 by omega)]; cases decide ((0 : Int) < (s.length : Int)) <;> rfl)]
  unfold wholeV
  cases hn : negW s with
  | false => rfl
  | true =>
    have hl : s.length > 1 := by
      unfold negW at hn
      by_cases h : s.length > 1
      · exact h
      · rw [decide_eq_false (show ¬ (s.length : Int) > 1 by omega)] at hn; cases hn
    rw [ck_t (by rw [decide_eq_true (show (1 : Int) ≤ (s.length : Int) by omega), decide_eq_true (show (s.length : Int) ≤ (s.length : Int) by omega)]; rfl),
      ck_t (by rw [decide_eq_true (show (0 : Int) < ((t1 s).length : Int) by rw [t1_len]; omega)]; rfl)]
    cases byt (t1 s) 0 == 48 <;> rfl

def tW (R : Eng.Told Pl) : Eng.Told Pl := tell 40 (pS fun s => .bool (wholeV s)) R
theorem tW_ok {R : Eng.Told Pl} (h : TOk R) : TOk (tW R) := tell_ok (pS_ok whole_sound) h

def pI1 : List (D Pl) → Option (Bool × D Pl)
  | [.str s, .int .i64 (.ofNat 10), .int .i64 (.ofNat 64)] => some (pOk s, .tup [dI (pVal s), .nilI])
  | _ => none
def pI2 : List (D Pl) → Option (Bool × D Pl)
  | [.str s, .int .i64 (.ofNat 10), .int .i64 (.ofNat 64)] => some (!(pOk s), .tup [dI (pVal s), .ifa])
  | _ => none
theorem pI1_ok : ∀ ds b d, pI1 ds = some (b, d) → b = true → Snd 41 ds d := by
  intro ds b d h hb
  unfold pI1 at h
  split at h
  · simp only [Option.some.injEq, Prod.mk.injEq] at h; obtain ⟨rfl, rfl⟩ := h; exact parse_ok _ hb
  · simp at h
theorem pI2_ok : ∀ ds b d, pI2 ds = some (b, d) → b = true → Snd 41 ds d := by
  intro ds b d h hb
  unfold pI2 at h
  split at h
  · simp only [Option.some.injEq, Prod.mk.injEq] at h; obtain ⟨rfl, rfl⟩ := h; exact parse_no _ (by simpa using hb)
  · simp at h

theorem e17a (s : Str) : evF (tW (tell 41 pI1 tell0)) noTL noL 1 Tryz.f29 [.str s] = bif !(wholeV s) then some (.tup [dI 0, dI 4]) else ck_ (pOk s) (some (.tup [dI (pVal s), dI 0])) := by kernel_rfl
theorem e17b (s : Str) : evF (tW (tell 41 pI2 tell0)) noTL noL 1 Tryz.f29 [.str s] = bif !(wholeV s) then some (.tup [dI 0, dI 4]) else ck_ (!(pOk s)) (some (.tup [dI 0, dI 6])) := by kernel_rfl

def parseV (s : Str) : Int × Int := bif wholeV s then (bif pOk s then (pVal s, 0) else (0, 6)) else (0, 4)
def prT (p : Int × Int) : D Pl := .tup [dI p.1, dI p.2]

theorem parse_sound (s : Str) : Snd 29 [.str s] (prT (parseV s)) := by
  have hl : (loopsAt 29).length = 0 := by kernel_rfl
  cases h : pOk s with
  | true =>
    refine snd_fn (n := 1) (tW_ok (tell_ok pI1_ok (tell0_ok _))) (noTL_ok _ _) (fn := Tryz.f29) (by kernel_rfl) (loops_of (fn := Tryz.f29) (by kernel_rfl) (loops_0 hl)) ((e17a s).trans ?_)
    unfold parseV
    rw [h]
    cases wholeV s <;> rfl
  | false =>
    refine snd_fn (n := 1) (tW_ok (tell_ok pI2_ok (tell0_ok _))) (noTL_ok _ _) (fn := Tryz.f29) (by kernel_rfl) (loops_of (fn := Tryz.f29) (by kernel_rfl) (loops_0 hl)) ((e17b s).trans ?_)
    unfold parseV
    rw [h]
    cases wholeV s <;> rfl

end Go.Proofs.YtmhmelmoionoiaaGreatDoor.Nu

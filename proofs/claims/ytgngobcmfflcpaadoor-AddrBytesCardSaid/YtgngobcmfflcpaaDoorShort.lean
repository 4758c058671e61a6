/-
  SHORT FORMS OF NUMBERS: the program's PutShort and the document's Short lay the same bytes.
-/
import Derived.Test.YtgngobcmfflcpaaDoorLib
import Derived.Test.YtgngobcmfflcpaaDoorEngRn
namespace Go.Proofs.YtgngobcmfflcpaaDoor
open Go.Eng

set_option maxRecDepth 100000

theorem wu64 (n : Int) : IntKind.u64.wrap n = n % 18446744073709551616 := by simp [IntKind.wrap, IntKind.bits, IntKind.signed]
theorem wu8 (n : Int) : IntKind.u8.wrap n = n % 256 := by simp [IntKind.wrap, IntKind.bits, IntKind.signed]

/-- A loop over states of a kind: each round goes on to a smaller one that comes to the same, or leaves. -/
theorem loop_byM {A : Type} {body : Code} {Sf : A → St Pl} (I : A → Prop) (m : A → Nat) (res : A → Ex × St Pl)
    (step : ∀ a, I a → (∃ b, I b ∧ m b < m a ∧ res a = res b ∧ Goes X0 body (Sf a) .normal (Sf b)) ∨ ((res a).1 ≠ .normal ∧ Goes X0 body (Sf a) (res a).1 (res a).2)) (a : A) (ha : I a) :
    Goes X0 (.loop body) (Sf a) (res a).1 (res a).2 := by
  have key : ∀ (k : Nat) (a : A), m a < k → I a → ∃ (n : Nat) (T : Nat → St Pl), T 0 = Sf a ∧ (∀ i, i < n → Goes X0 body (T i) .normal (T (i + 1))) ∧ (res a).1 ≠ .normal ∧ Goes X0 body (T n) (res a).1 (res a).2 := by
    intro k
    induction k with
    | zero => intro a h; omega
    | succ k ih =>
      intro a hk ha
      rcases step a ha with ⟨b, hb, hm, hr, hg⟩ | ⟨hn, hg⟩
      · obtain ⟨n, T, h0, h1, h2, h3⟩ := ih b (by omega) hb
        refine ⟨n + 1, fun i => match i with
          | 0 => Sf a
          | i + 1 => T i, rfl, fun i hi => ?_, by rw [hr]; exact h2, by rw [hr]; exact h3⟩
        match i with
        | 0 => show Goes X0 body (Sf a) .normal (T 0); rw [h0]; exact hg
        | i + 1 => exact h1 i (by omega)
      · exact ⟨0, fun _ => Sf a, rfl, fun i hi => by omega, hn, hg⟩
  obtain ⟨n, T, h0, h1, h2, h3⟩ := key (m a + 1) a (by omega) ha
  have := loop_goes h2 n T h1 h3
  rwa [h0] at this

-- the bytes

/-- all but the last; the last -/
def shI (n : Nat) : List UInt8 := if n < 128 then [] else UInt8.ofNat (n % 128 + 128) :: shI (n / 128)
termination_by n
decreasing_by omega
def shZ (n : Nat) : Nat := if n < 128 then n else shZ (n / 128)
termination_by n
decreasing_by omega
def shL (n : Nat) : List UInt8 := shI n ++ [UInt8.ofNat (shZ n)]

theorem shI_lt {n : Nat} (h : n < 128) : shI n = [] := by rw [shI, if_pos h]
theorem shI_ge {n : Nat} (h : ¬ n < 128) : shI n = UInt8.ofNat (n % 128 + 128) :: shI (n / 128) := by rw [shI, if_neg h]
theorem shZ_lt {n : Nat} (h : n < 128) : shZ n = n := by rw [shZ, if_pos h]
theorem shZ_ge {n : Nat} (h : ¬ n < 128) : shZ n = shZ (n / 128) := by rw [shZ, if_neg h]
theorem shZ_le (n : Nat) : shZ n < 128 := by
  induction n using Nat.strongRecOn with
  | _ n ih =>
    by_cases h : n < 128
    · rw [shZ_lt h]; exact h
    · rw [shZ_ge h]; exact ih _ (by omega)
theorem shI_len (k : Nat) : ∀ n, n < 128 ^ k → (shI n).length ≤ k := by
  induction k with
  | zero => intro n h; rw [shI_lt (by simp at h; omega)]; simp
  | succ k ih =>
    intro n h
    by_cases h1 : n < 128
    · rw [shI_lt h1]; simp
    · rw [shI_ge h1]
      have := ih (n / 128) (by rw [Nat.pow_succ] at h; omega)
      simp; omega
theorem shI_len9 {n : Nat} (h : n < 2 ^ 64) : (shI n).length ≤ 10 := shI_len 10 n (Nat.lt_of_lt_of_le h (by decide))

/-- the byte that is laid -/
def orB (c : Nat) : Bool := UInt8.ofNat (bitsE .or .u8 (c : Int) 128).toNat == UInt8.ofNat (c % 128 + 128)
theorem orB_all : (List.range 256).all orB = true := by decide +kernel
theorem or_byte (n : Nat) : UInt8.ofNat (bitsE .or .u8 (IntKind.u8.wrap (n : Int)) 128).toNat = UInt8.ofNat (n % 128 + 128) := by
  have h := List.all_eq_true.1 orB_all (n % 256) (by simp; omega)
  simp only [orB, beq_iff_eq] at h
  rw [wu8, show (n : Int) % 256 = ((n % 256 : Nat) : Int) by omega, h]
  congr 2
  omega

-- slices.Clone of bytes

theorem cloneB_nil : ev tell0 noTL 3 22 [.pl (pBytes []) (.nil true)] = some .nilS := by kernel_rfl
theorem cloneB_some (l : List UInt8) : ev tell0 noTL 3 22 [.pl (pBytes l) (.nil false)] = bif (true && Nat.ble (((pBytes []).l.length + l.length) * 1) big) then some (.ow [] (.pl (pBytes l) .any)) else none := by kernel_rfl

/-- A nil slice is new, too. -/
theorem nil_ow {f : FuncId} {ds : List (D Pl)} (h : Snd f ds .nilS) : Snd f ds (.ow [] (.pl (pBytes []) .any)) := by
  intro w av vs hg ha hs hr
  have key : ∀ v w', (RD X0.C (cx0 w' av) v (.nilS : D Pl) ∧ BelowD X0.C.dr w.heap.size w w' ∧ OwnPost X0.C w.heap.size av v w' (.nilS : D Pl)) →
      RD X0.C (cx0 w' av) v (.ow [] (.pl (pBytes []) .any)) ∧ BelowD X0.C.dr w.heap.size w w' ∧ OwnPost X0.C w.heap.size av v w' (.ow [] (.pl (pBytes []) .any)) := by
    rintro v w' ⟨h1, h2, _⟩
    cases h1
    refine ⟨.ow _ _ _ (.pl0 none 0 _ .any rfl trivial), h2, fun p kk hp => ?_⟩
    have hp : some (D.pl (pBytes []) SK.any) = some (D.pl p kk) := hp
    simp only [Option.some.injEq, D.pl.injEq] at hp
    obtain ⟨rfl, rfl⟩ := hp
    refine ⟨none, fun b hb => by simp at hb, fun o => ⟨?_, ?_⟩⟩
    · exact .arrN o (pBytes []) none (by simp [cxN]) rfl
    · exact rfl
  rcases h w av vs hg ha hs hr with ⟨h1, h2⟩ | ⟨v, w', h1, h2⟩
  · exact .inl ⟨h1, h2.mono fun e w' ⟨v, he, hp⟩ => ⟨v, he, key v w' hp⟩⟩
  · exact .inr ⟨v, w', h1, key v w' h2⟩

def asBy : D Pl → Option (List UInt8)
  | .nilS => some []
  | .pl ⟨.bytes, l⟩ _ => some l
  | _ => none
theorem asBy_rdle {d : D Pl} {l : List UInt8} (h : asBy d = some l) : RDle X0.C d (.pl (pBytes l) .any) := by
  unfold asBy at h
  split at h
  · simp only [Option.some.injEq] at h; subst h; exact RDle.of (.nil _ rfl)
  · simp only [Option.some.injEq] at h; subst h; exact RDle.of (.any _ _)
  · simp at h
theorem cloneB_sound (l : List UInt8) (k : SK) : Snd 22 [.pl (pBytes l) k] (.ow [] (.pl (pBytes l) .any)) := by
  refine SoundAt.room (pre := []) (post := []) fun hroom => SoundAt.nilOr (pre := []) (post := []) fun b hb => ?_
  cases b with
  | true =>
    have hl : l = [] := List.length_eq_zero_iff.1 (hb rfl)
    subst hl
    exact nil_ow (snd_of (tell0_ok _) (noTL_ok _ _) cloneB_nil)
  | false =>
    refine snd_of (tell0_ok _) (noTL_ok _ _) ((cloneB_some l).trans ?_)
    have : Nat.ble (((pBytes []).l.length + l.length) * 1) big = true := by
      rw [Nat.ble_eq]
      have hr : l.length * 1 ≤ big := hroom
      simpa using hr
    rw [this]; rfl
def pCloneB : List (D Pl) → Option (Bool × D Pl)
  | [d] => match asBy d with
    | some l => some (true, .ow [] (.pl (pBytes l) .any))
    | none => none
  | _ => none
theorem pCloneB_ok : ∀ ds b d, pCloneB ds = some (b, d) → b = true → Snd 22 ds d := by
  intro ds b d h hb
  unfold pCloneB at h
  split at h
  · split at h
    · rename_i l hl
      simp only [Option.some.injEq, Prod.mk.injEq] at h
      obtain ⟨_, rfl⟩ := h
      exact (cloneB_sound l .any).pre (.cons (asBy_rdle hl) .nil)
    · simp at h
  · simp at h

-- PutShort

def sP (f : Bool) (l : List UInt8) (n : Int) : St Pl := mkS 23 [(1, .int .u64 n), (5, .arr (bif f then 7 else 15))] [(bif f then 7 else 15, .arr false (pBytes l))]
theorem bP (f : Bool) (l : List UInt8) (n : Int) : evD tell0 noTL noL 1 (loopAt 24 0) [1, 5] [] (sP f l n) =
    bif decide (n ≥ 128) then ck_ (true && Nat.ble ((l.length + 1) * 1) big) (some (.normal, sP false (l ++ [UInt8.ofNat (bitsE .or .u8 (IntKind.u8.wrap n) 128).toNat]) (n.fdiv (2 ^ 7)))) else some (.exit 0, sP f l n) := by cases f <;> kernel_rfl
theorem idsP : (loopsAt 24).length = 1 ∧ firstId (loopAt 24 0) = 2 ∧ loopsOf (loopAt 24 0) = [] := ⟨by kernel_rfl, by kernel_rfl, by kernel_rfl⟩

theorem stepP (f : Bool) (l : List UInt8) (n : Nat) (h : ¬ n < 128) (hl : l.length + 1 ≤ big) : GoesTo (loopAt 24 0) (sP f l n) .normal (sP false (l ++ [UInt8.ofNat (n % 128 + 128)]) (n / 128 : Nat)) := by
  refine goes_ofD (tell0_ok _) (noTL_ok _ _) (noLoops idsP.2.2) ((bP f l n).trans ?_)
  rw [decide_eq_true (show (n : Int) ≥ 128 by omega), ck_t (by rw [Bool.true_and]; exact ble_t (by omega)), or_byte, show ((n : Int)).fdiv (2 ^ 7) = ((n / 128 : Nat) : Int) by rw [Int.fdiv_eq_ediv_of_nonneg _ (by omega)]; rfl]
  rfl
theorem lastP (f : Bool) (l : List UInt8) (n : Nat) (h : n < 128) : GoesTo (loopAt 24 0) (sP f l n) (.exit 0) (sP f l n) := by
  refine goes_ofD (tell0_ok _) (noTL_ok _ _) (noLoops idsP.2.2) ((bP f l n).trans ?_)
  rw [decide_eq_false (show ¬ (n : Int) ≥ 128 by omega)]
  rfl
def endP (a : Bool × List UInt8 × Nat) : Ex × St Pl := (.exit 0, bif (a.1 && decide (a.2.2 < 128)) then sP true a.2.1 a.2.2 else sP false (a.2.1 ++ shI a.2.2) (shZ a.2.2))
theorem loopP (l : List UInt8) (n : Nat) (hl : l.length + (shI n).length ≤ big) : GoesTo (.loop (loopAt 24 0)) (sP true l n) (endP (true, l, n)).1 (endP (true, l, n)).2 := by
  refine loop_byM (Sf := fun a : Bool × List UInt8 × Nat => sP a.1 a.2.1 a.2.2) (I := fun a => a.2.1.length + (shI a.2.2).length ≤ big) (m := fun a => a.2.2) (res := endP) (fun a ha => ?_) (true, l, n) hl
  obtain ⟨f, l, n⟩ := a
  have ha : l.length + (shI n).length ≤ big := ha
  by_cases h : n < 128
  · refine .inr ⟨by simp [endP], ?_⟩
    have he : endP (f, l, n) = (.exit 0, sP f l n) := by
      unfold endP
      cases f
      · simp [shI_lt h, shZ_lt h]
      · simp [h]
    rw [he]
    exact lastP f l n h
  · rw [shI_ge h, List.length_cons] at ha
    refine .inl ⟨(false, l ++ [UInt8.ofNat (n % 128 + 128)], n / 128), by simp; omega, by show n / 128 < n; omega, ?_, stepP f l n h (by omega)⟩
    unfold endP
    simp only [Bool.false_and, cond_false, decide_eq_false h, Bool.and_false, shI_ge h, shZ_ge h, List.append_assoc]
    rfl

def LSP (S : St Pl) : Option (Bool × LR Pl) := match seenS 23 [1, 5] S with
  | some ([.int .u64 (.ofNat n), .arr 7], [(7, .arr false ⟨.bytes, l⟩)]) => some (Nat.ble (l.length + (shI n).length) big, .ite (decide (n < 128)) (.leaf (.exit 0) (sP true l n)) (.leaf (.exit 0) (sP false (l ++ shI n) (shZ n))))
  | _ => none
theorem LSP_ok : SOk X0 (loopAt 24 0) LSP := by
  intro S c r h hc
  unfold LSP at h
  split at h
  · rename_i n l hs
    simp only [Option.some.injEq, Prod.mk.injEq] at h
    obtain ⟨rfl, rfl⟩ := h
    simp only [Nat.ble_eq] at hc
    refine Goes.pre (keepOf [1, 5]) ?_
    rw [seenS_mask hs]
    have h1 := loopP l n hc
    have he : endP (true, l, n) = pickR (.ite (decide (n < 128)) (.leaf (.exit 0) (sP true l n)) (.leaf (.exit 0) (sP false (l ++ shI n) (shZ n)))) := by
      unfold endP
      simp only [Bool.true_and, pickR]
      cases decide (n < 128) <;> rfl
    rw [← he]
    exact h1
  · simp at h
noncomputable def tPS : Eng.Told Pl := tell 22 pCloneB tell0
theorem eP (l : List UInt8) (n : Nat) : evF tPS noTL (atL 2 LSP noL) 1 Tryd.f24 [.pl (pBytes l) .any, .int .u64 (n : Int)] =
    ck_ (Nat.ble (l.length + (shI n).length) big) (bif decide (n < 128) then ck_ (true && Nat.ble ((l.length + 1) * 1) big) (some (.ow [] (.pl (pBytes (l ++ [UInt8.ofNat (IntKind.u8.wrap (n : Int)).toNat])) .any)))
      else ck_ (true && Nat.ble (((l ++ shI n).length + 1) * 1) big) (some (.ow [] (.pl (pBytes ((l ++ shI n) ++ [UInt8.ofNat (IntKind.u8.wrap (shZ n : Int)).toNat])) .any)))) := by kernel_rfl
theorem last_byte {n : Nat} (h : n < 128) : UInt8.ofNat (IntKind.u8.wrap (n : Int)).toNat = UInt8.ofNat n := by
  rw [wu8, show ((n : Int) % 256).toNat = n by omega]
theorem putshort_sound (l : List UInt8) (n : Nat) (hl : l.length + 11 ≤ big) (hn : n < 2 ^ 64) : Snd 24 [.pl (pBytes l) .any, .int .u64 (n : Int)] (.ow [] (.pl (pBytes (l ++ shL n)) .any)) := by
  refine snd_fn (n := 1) (tell_ok pCloneB_ok (tell0_ok _)) (noTL_ok _ _) (fn := Tryd.f24) (by kernel_rfl) (loops_of (fn := Tryd.f24) (by kernel_rfl) (loops_1 idsP.1 (atL_ok (fun _ => LSP_ok) fun h => absurd idsP.2.1 h))) ((eP l n).trans ?_)
  have h9 := shI_len9 hn
  rw [ck_t (ble_t (by omega)), ck_t (by rw [Bool.true_and]; exact ble_t (by omega)), ck_t (by rw [Bool.true_and]; exact ble_t (by simp; omega)), last_byte (shZ_le n)]
  by_cases h : n < 128
  · rw [decide_eq_true h, last_byte h]
    simp only [cond_true, shL, shI_lt h, shZ_lt h, List.nil_append]
  · rw [decide_eq_false h]
    simp only [cond_false, shL, List.append_assoc]
end Go.Proofs.YtgngobcmfflcpaaDoor

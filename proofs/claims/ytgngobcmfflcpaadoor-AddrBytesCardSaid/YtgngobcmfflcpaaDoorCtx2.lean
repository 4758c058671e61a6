/-
  A SECOND CONTEXT: functions that write into what they are lent (the reader's).
-/
import Derived.Test.YtgngobcmfflcpaaDoorForm
namespace Go.Proofs.YtgngobcmfflcpaaDoor
open Go.Eng

set_option maxRecDepth 100000

/-- The functions that write into what they are lent. -/
def isM (f : FuncId) : Bool := memNat [45, 28, 30, 29] f

noncomputable def X2 : Ctx Pl := { P := Tryd.prog, C := plC emp, R := fun _ _ => none, glob := glb, plainT := plainT, N := 1000, own := true, noM := false, isM := isM }
theorem xok2 : XOk X2 where
  pay := plC_ok emp
  plain := fun t ht => by
    refine stood t ?_
    simp only [X2, plainT, Bool.or_eq_true, Nat.beq_eq_true_eq] at ht
    simpa using ht
  mixed := by kernel_rfl

abbrev SndM (f : FuncId) (H : Obs Pl) (ds : List (D Pl)) (d : D Pl) (H' : Obs Pl) : Prop := SoundM X0.P X0.C X0.glob f H ds d H'

theorem told2 {R : Eng.Told Pl} (h : TOk R) : ToldOk X2 R := fun f ds b d h1 h2 => h f ds b d h1 h2
theorem noTL2 : TLOk X2 F0 noTL := noTL_ok _ _

noncomputable abbrev ev2 (R : Eng.Told Pl) (n : Nat) (f : FuncId) (ds : List (D Pl)) : Option (D Pl) := callK X2 F0 R noTL n f ds (fun d => some d)
theorem snd_of2 {R : Eng.Told Pl} (hR : ToldOk X2 R) {n : Nat} {f : FuncId} {ds : List (D Pl)} {d : D Pl} (h : ev2 R n f ds = some d) (hlt : Nat.blt f 1000000 = true := by rfl) : Snd f ds d := by
  obtain ⟨e, he, hs⟩ := callK_sound xok2 fok hR noTL2 h
  simp only [Option.some.injEq] at he
  subst he
  exact hs.1 hlt
noncomputable abbrev evF2 (R : Eng.Told Pl) (L : LK Pl) (n : Nat) (fn : Func) (ds : List (D Pl)) : Option (D Pl) := fnK X2 (callK X2 F0 R noTL n) L fn ds (fun d => some d)
theorem snd_fn2 {R : Eng.Told Pl} (hR : ToldOk X2 R) {L : LK Pl} {n : Nat} {f : FuncId} {fn : Func} {ds : List (D Pl)} {d : D Pl} (hf : F0 f = some fn) (hL : ∀ code, fn.body = some code → ∀ b ∈ loopsOf code, LoopOk X2 L b)
    (h : evF2 R L n fn ds = some d) : Snd f ds d := by
  obtain ⟨e, he, hs⟩ := bodyK_sound xok2 fok hR noTL2 hf hL h
  simp only [Option.some.injEq] at he
  subst he
  exact hs
/-- A body that writes, evaluated. -/
noncomputable abbrev evM2 (R : Eng.Told Pl) (n : Nat) (fn : Func) (H : Obs Pl) (ds : List (D Pl)) : Option (D Pl) := fnM X2 (callK X2 F0 R noTL n) noL fn H ds (fun d => some d)
theorem snd_m2 {R : Eng.Told Pl} (hR : ToldOk X2 R) {n : Nat} {f : FuncId} {fn : Func} {H : Obs Pl} {ds : List (D Pl)} {d : D Pl} {os : List (D Pl)} (hf : F0 f = some fn) (hL : ∀ code, fn.body = some code → ∀ b ∈ loopsOf code, LoopOk X2 noL b)
    (h : evM2 R n fn H ds = some (.env os d)) : SndM f H ds d (decH os) := by
  obtain ⟨os', d', he, hs⟩ := bodyM_sound xok2 fok hR noTL2 hf hL h
  simp only [Option.some.injEq, D.env.injEq] at he
  obtain ⟨rfl, rfl⟩ := he
  exact hs

theorem loops_none {f : FuncId} {fn : Func} (hf : F0 f = some fn) (h : (loopsAt f).length = 0) : ∀ code, fn.body = some code → ∀ b ∈ loopsOf code, LoopOk X2 noL b := by
  intro code hc b hb
  have he : loopsAt f = loopsOf code := by unfold loopsAt; rw [hf]; simp only [hc]
  rw [he, List.length_eq_zero_iff] at h
  rw [h] at hb; simp at hb

-- num.Get of one byte

def hdB : List UInt8 → UInt8
  | [] => 0
  | c :: _ => c
def hdE : List UInt8 → Nat
  | [] => 2
  | _ :: _ => 0
theorem eGet0 : ev tell0 noTL 2 46 [.pl (pBytes []) .any, .int .i64 1] = some (.tup [.int .u64 0, dI 2]) := by kernel_rfl
def orL (c : Nat) : Bool := bitsE .or .u64 (IntKind.u64.wrap (0 * 2 ^ min (Int.toNat 8) IntKind.u64.bits)) (IntKind.u64.wrap (c : Int)) == (c : Int)
theorem orL_all : (List.range 256).all orL = true := by decide +kernel
theorem eGet1 (c : UInt8) (b : List UInt8) : ev tell0 noTL 2 46 [.pl (pBytes (c :: b)) .any, .int .i64 1] = ck_ ((true && true && true && decide ((1 : Int) ≤ ((c :: b).length : Int))) || false)
    (some (.tup [.int .u64 (bitsE .or .u64 (IntKind.u64.wrap (0 * 2 ^ min (Int.toNat 8) IntKind.u64.bits)) (IntKind.u64.wrap (c.toNat : Int))), dI 0])) := by kernel_rfl
theorem get1_sound (l : List UInt8) : Snd 46 [.pl (pBytes l) .any, .int .i64 1] (.tup [.int .u64 ((hdB l).toNat : Int), dI (hdE l)]) := by
  cases l with
  | nil => exact snd_of (tell0_ok _) (noTL_ok _ _) eGet0
  | cons c b =>
    refine snd_of (tell0_ok _) (noTL_ok _ _) ((eGet1 c b).trans ?_)
    have h := List.all_eq_true.1 orL_all c.toNat (by simp [UInt8.toNat_lt c])
    simp only [orL, beq_iff_eq] at h
    rw [h, decide_eq_true (show (1 : Int) ≤ ((c :: b).length : Int) by simp only [List.length_cons]; omega)]
    rfl
def pGet1 : List (D Pl) → Option (Bool × D Pl)
  | [d, .int .i64 1] => match asBy d with
    | some l => some (true, .tup [.int .u64 ((hdB l).toNat : Int), dI (hdE l)])
    | none => none
  | _ => none
theorem pGet1_ok : ∀ ds b d, pGet1 ds = some (b, d) → b = true → Snd 46 ds d := by
  intro ds b d h hb
  unfold pGet1 at h
  split at h
  · split at h
    · rename_i l hl
      simp only [Option.some.injEq, Prod.mk.injEq] at h
      obtain ⟨_, rfl⟩ := h
      exact (get1_sound l).pre (.cons (asBy_rdle hl) (.cons (RDle.refl _) .nil))
    · simp at h
  · simp at h
noncomputable def tGet1 : Eng.Told Pl := tell 46 pGet1 tStrs
theorem tGet1_ok : TOk tGet1 := tell_ok pGet1_ok tStrs_ok

-- the reader: its bytes, where it is, what is wrong

def encR (l : List UInt8) (p e : Nat) : List (D Pl) := [.obB 50000 [.pl (pBytes l) .any, dI p, dI e]]
def okR (l : List UInt8) (p e : Nat) : Bool := (bif Nat.beq e 0 then Nat.ble p l.length else true) && (Nat.ble p (l.length + 1) && Nat.ble l.length big)
def txR (l : List UInt8) (p e : Nat) : List UInt8 × Nat × Nat := bif Nat.beq e 0 then ((gstO (l.drop p)).1, p + (gstO (l.drop p)).2.1, (gstO (l.drop p)).2.2) else ([], p, e)
def nuR (l : List UInt8) (p e : Nat) : Nat × Nat × Nat := bif Nat.beq e 0 then ((gsO (l.drop p)).1, p + (gsO (l.drop p)).2.1, (gsO (l.drop p)).2.2) else (0, p, e)
def kdR (l : List UInt8) (p e : Nat) : Nat × Nat × Nat := bif Nat.beq e 0 then ((hdB (l.drop p)).toNat, p + 1, bif Nat.beq (hdE (l.drop p)) 0 then (bif Nat.blt 2 (hdB (l.drop p)).toNat then 4 else 0) else hdE (l.drop p)) else (0, p, e)

def pRd {α : Type} (f : List UInt8 → Nat → Nat → α × Nat × Nat) (g : α → D Pl) : List (D Pl) → List (D Pl) → Option (Bool × D Pl × List (D Pl))
  | [.obB 50000 [.pl ⟨.bytes, l⟩ .any, .int .i64 (.ofNat p), .int .i64 (.ofNat e)]], [.ptr 50000 0] => some (okR l p e, g (f l p e).1, encR l (f l p e).2.1 (f l p e).2.2)
  | _, _ => none
theorem pRd_ok {α : Type} {f : List UInt8 → Nat → Nat → α × Nat × Nat} {g : α → D Pl} {fn : FuncId} (h : ∀ l p e, okR l p e = true → SndM fn (decH (encR l p e)) [.ptr 50000 0] (g (f l p e).1) (decH (encR l (f l p e).2.1 (f l p e).2.2))) :
    ∀ os ds b d os', pRd f g os ds = some (b, d, os') → b = true → SndM fn (decH os) ds d (decH os') := by
  intro os ds b d os' h0 hb
  unfold pRd at h0
  split at h0
  · simp only [Option.some.injEq, Prod.mk.injEq] at h0
    obtain ⟨rfl, rfl, rfl⟩ := h0
    exact h _ _ _ hb
  · simp at h0

noncomputable def txE (l : List UInt8) (p e : Nat) : Option (D Pl) := bif ((e : Int) != 0) then some (.env (encR l p e) (.str [])) else
  bif (true && decide (0 ≤ (p : Int)) && decide ((p : Int) ≤ (l.length : Int)) && decide ((l.length : Int) ≤ (l.length : Int))) || false then
    some (.env [.obB 50000 [.pl (pBytes l) .any, dI (IntKind.i64.wrap ((p : Int) + ((gstO ((l.drop (p : Int).toNat).take ((l.length : Int).toNat - (p : Int).toNat))).2.1 : Int))), dI (gstO ((l.drop (p : Int).toNat).take ((l.length : Int).toNat - (p : Int).toNat))).2.2]]
      (.str (gstO ((l.drop (p : Int).toNat).take ((l.length : Int).toNat - (p : Int).toNat))).1)) else none
theorem eText (l : List UInt8) (p e : Nat) : evM2 tGet1 3 Tryd.f28 (decH (encR l p e)) [.ptr 50000 0] = txE l p e := by kernel_rfl
noncomputable def nuE (l : List UInt8) (p e : Nat) : Option (D Pl) := bif ((e : Int) != 0) then some (.env (encR l p e) (.int .u64 0)) else
  bif (true && decide (0 ≤ (p : Int)) && decide ((p : Int) ≤ (l.length : Int)) && decide ((l.length : Int) ≤ (l.length : Int))) || false then
    some (.env [.obB 50000 [.pl (pBytes l) .any, dI (IntKind.i64.wrap ((p : Int) + ((gsO ((l.drop (p : Int).toNat).take ((l.length : Int).toNat - (p : Int).toNat))).2.1 : Int))), dI (gsO ((l.drop (p : Int).toNat).take ((l.length : Int).toNat - (p : Int).toNat))).2.2]]
      (.int .u64 ((gsO ((l.drop (p : Int).toNat).take ((l.length : Int).toNat - (p : Int).toNat))).1 : Int))) else none
theorem eNumber (l : List UInt8) (p e : Nat) : evM2 tGet1 3 Tryd.f30 (decH (encR l p e)) [.ptr 50000 0] = nuE l p e := by kernel_rfl
noncomputable def kdE (l : List UInt8) (p e : Nat) : Option (D Pl) := bif ((e : Int) != 0) then some (.env (encR l p e) (dI 0)) else
  bif (true && decide (0 ≤ (p : Int)) && decide ((p : Int) ≤ (l.length : Int)) && decide ((l.length : Int) ≤ (l.length : Int))) || false then
    (bif (bif ((hdE ((l.drop (p : Int).toNat).take ((l.length : Int).toNat - (p : Int).toNat)) : Int) == 0) then decide (((hdB ((l.drop (p : Int).toNat).take ((l.length : Int).toNat - (p : Int).toNat))).toNat : Int) > 2) else false) then
      some (.env [.obB 50000 [.pl (pBytes l) .any, dI (IntKind.i64.wrap ((p : Int) + 1)), dI 4]] (.int .i64 (IntKind.i64.wrap ((hdB ((l.drop (p : Int).toNat).take ((l.length : Int).toNat - (p : Int).toNat))).toNat : Int))))
    else some (.env [.obB 50000 [.pl (pBytes l) .any, dI (IntKind.i64.wrap ((p : Int) + 1)), dI (hdE ((l.drop (p : Int).toNat).take ((l.length : Int).toNat - (p : Int).toNat)))]] (.int .i64 (IntKind.i64.wrap ((hdB ((l.drop (p : Int).toNat).take ((l.length : Int).toNat - (p : Int).toNat))).toNat : Int))))) else none
theorem eKind (l : List UInt8) (p e : Nat) : evM2 tGet1 3 Tryd.f29 (decH (encR l p e)) [.ptr 50000 0] = kdE l p e := by kernel_rfl

theorem gsL_4 : ∀ (l : List UInt8) (i acc a u e : Nat), gsL l i acc = some (a, u, e) → e = 0 ∨ (e = 4 ∧ u = 0 ∧ a = 0) := by
  intro l
  induction l with
  | nil => intro i acc a u e h; simp [gsL] at h
  | cons c r ih =>
    intro i acc a u e h
    rw [gsL] at h
    cases h1 : (bif i == 9 then decide (c.toNat > 1) else false) with
    | true =>
      rw [h1] at h
      simp only [cond_true, Option.some.injEq, Prod.mk.injEq] at h; exact .inr ⟨h.2.2.symm, h.2.1.symm, h.1.symm⟩
    | false =>
      rw [h1, cond_false] at h
      cases h2 : decide (c.toNat < 128) with
      | true =>
        rw [h2, cond_true] at h
        cases h3 : (bif c.toNat == 0 then decide (i > 0) else false) with
        | true =>
          rw [h3] at h
          simp only [cond_true, Option.some.injEq, Prod.mk.injEq] at h; exact .inr ⟨h.2.2.symm, h.2.1.symm, h.1.symm⟩
        | false =>
          rw [h3] at h
          simp only [cond_false, Option.some.injEq, Prod.mk.injEq] at h
          exact .inl h.2.2.symm
      | false =>
        rw [h2, cond_false] at h
        exact ih _ _ _ _ _ h
theorem gsO_used (l : List UInt8) : (gsO l).2.1 ≤ l.length := by
  by_cases h : (gsO l).2.2 = 0
  · exact (gsO_ok h).2
  · unfold gsO at *
    cases hg : gsL l 0 0 with
    | none => simp
    | some x =>
      obtain ⟨a, u, e⟩ := x
      rw [hg] at h
      rcases gsL_4 _ _ _ _ _ _ hg with h0 | ⟨_, h0, _⟩
      · exact absurd h0 h
      · simp [h0]
theorem gstO_used (l : List UInt8) : (gstO l).2.1 ≤ l.length := by
  unfold gstO
  by_cases h : (gsO l).2.2 = 0
  · rw [show (!((gsO l).2.2 == 0)) = false by simp [h]]
    simp only [cond_false]
    have h1 := gsO_ok h
    cases Nat.blt 24 (gsO l).1 with
    | true => simp
    | false =>
      simp only [cond_false]
      cases hb : Nat.blt (l.length - (gsO l).2.1) (gsO l).1 with
      | true => simp
      | false =>
        have := blt_le hb
        simp only [cond_false]
        omega
  · rw [show (!((gsO l).2.2 == 0)) = true by simp [h]]
    simp

theorem okR_parts {l : List UInt8} {p e : Nat} (h : okR l p e = true) : (e = 0 → p ≤ l.length) ∧ p ≤ l.length + 1 ∧ l.length ≤ big := by
  unfold okR at h
  simp only [Bool.and_eq_true, Nat.ble_eq] at h
  refine ⟨fun h0 => ?_, h.2.1, h.2.2⟩
  subst h0
  have := h.1
  simpa using this
theorem beq0 (e : Nat) : ((e : Int) != 0) = !(Nat.beq e 0) := by
  cases e with
  | zero => rfl
  | succ n =>
    show (!(((n + 1 : Nat) : Int) == 0)) = true
    rw [beq_eq_false_iff_ne.2 (by omega)]
    rfl
theorem rest_eq (l : List UInt8) (p : Nat) : (l.drop (p : Int).toNat).take ((l.length : Int).toNat - (p : Int).toNat) = l.drop p := by
  rw [Int.toNat_natCast, Int.toNat_natCast]
  exact List.take_of_length_le (by simp)
theorem room_eq {l : List UInt8} {p : Nat} (h : p ≤ l.length) : ((true && decide (0 ≤ (p : Int)) && decide ((p : Int) ≤ (l.length : Int)) && decide ((l.length : Int) ≤ (l.length : Int))) || false) = true := by
  rw [decide_eq_true (show (0 : Int) ≤ (p : Int) by omega), decide_eq_true (show (p : Int) ≤ (l.length : Int) by omega), decide_eq_true (Int.le_refl _)]
  rfl
theorem dropLen (l : List UInt8) (p : Nat) : (l.drop p).length = l.length - p := by simp

theorem text_sound (l : List UInt8) (p e : Nat) (h : okR l p e = true) : SndM 28 (decH (encR l p e)) [.ptr 50000 0] (.str (txR l p e).1) (decH (encR l (txR l p e).2.1 (txR l p e).2.2)) := by
  obtain ⟨h1, h2, h3⟩ := okR_parts h
  have hbig : big = 140737488355328 := rfl
  refine snd_m2 (n := 3) (told2 tGet1_ok) (fn := Tryd.f28) (by kernel_rfl) (fun code hc b hb => ?_) ((eText l p e).trans ?_)
  · exact loops_none (f := 28) (fn := Tryd.f28) (by kernel_rfl) (by kernel_rfl) code hc b hb
  unfold txE txR
  rw [beq0]
  by_cases h0 : e = 0
  · subst h0
    have hp := h1 rfl
    have hu := gstO_used (l.drop p)
    rw [dropLen] at hu
    rw [room_eq hp, rest_eq, show (p : Int) + ((gstO (l.drop p)).2.1 : Int) = ((p + (gstO (l.drop p)).2.1 : Nat) : Int) by omega, wi64 (by omega)]
    rfl
  · rw [show Nat.beq e 0 = false by cases e; exact absurd rfl h0; rfl]
    rfl
theorem number_sound (l : List UInt8) (p e : Nat) (h : okR l p e = true) : SndM 30 (decH (encR l p e)) [.ptr 50000 0] (.int .u64 ((nuR l p e).1 : Int)) (decH (encR l (nuR l p e).2.1 (nuR l p e).2.2)) := by
  obtain ⟨h1, h2, h3⟩ := okR_parts h
  have hbig : big = 140737488355328 := rfl
  refine snd_m2 (n := 3) (told2 tGet1_ok) (fn := Tryd.f30) (by kernel_rfl) (fun code hc b hb => ?_) ((eNumber l p e).trans ?_)
  · exact loops_none (f := 30) (fn := Tryd.f30) (by kernel_rfl) (by kernel_rfl) code hc b hb
  unfold nuE nuR
  rw [beq0]
  by_cases h0 : e = 0
  · subst h0
    have hp := h1 rfl
    have hu := gsO_used (l.drop p)
    rw [dropLen] at hu
    rw [room_eq hp, rest_eq, show (p : Int) + ((gsO (l.drop p)).2.1 : Int) = ((p + (gsO (l.drop p)).2.1 : Nat) : Int) by omega, wi64 (by omega)]
    rfl
  · rw [show Nat.beq e 0 = false by cases e; exact absurd rfl h0; rfl]
    rfl
theorem kind_sound (l : List UInt8) (p e : Nat) (h : okR l p e = true) : SndM 29 (decH (encR l p e)) [.ptr 50000 0] (.int .i64 ((kdR l p e).1 : Int)) (decH (encR l (kdR l p e).2.1 (kdR l p e).2.2)) := by
  obtain ⟨h1, h2, h3⟩ := okR_parts h
  have hbig : big = 140737488355328 := rfl
  refine snd_m2 (n := 3) (told2 tGet1_ok) (fn := Tryd.f29) (by kernel_rfl) (fun code hc b hb => ?_) ((eKind l p e).trans ?_)
  · exact loops_none (f := 29) (fn := Tryd.f29) (by kernel_rfl) (by kernel_rfl) code hc b hb
  unfold kdE kdR
  rw [beq0]
  by_cases h0 : e = 0
  · subst h0
    have hp := h1 rfl
    have hB : (hdB (l.drop p)).toNat < 256 := UInt8.toNat_lt _
    rw [room_eq hp, rest_eq, show (p : Int) + 1 = ((p + 1 : Nat) : Int) by omega, wi64 (by omega), wi64 (by omega), show decide (((hdB (l.drop p)).toNat : Int) > 2) = Nat.blt 2 (hdB (l.drop p)).toNat from gt_blt _ 2]
    cases hdE (l.drop p) with
    | zero => cases Nat.blt 2 (hdB (l.drop p)).toNat <;> rfl
    | succ n => rfl
  · rw [show Nat.beq e 0 = false by cases e; exact absurd rfl h0; rfl]
    rfl

noncomputable def tRd : Eng.Told Pl := tellM 28 (pRd txR .str) (tellM 30 (pRd nuR fun n => .int .u64 (n : Int)) (tellM 29 (pRd kdR fun n => .int .i64 (n : Int)) (tell 21 (pK1 fun a => dI (bif okK a then 0 else 1)) tell0)))
theorem tRd_ok : ToldOk X2 tRd := tellM_ok (pRd_ok text_sound) (tellM_ok (pRd_ok number_sound) (tellM_ok (pRd_ok kind_sound) (told2 (tell_ok (pK1_ok checkK_sound) (tell0_ok _)))))
end Go.Proofs.YtgngobcmfflcpaaDoor

/-
  WHAT IS LEFT AS IT WAS: both sides hand back the same value, where what is wanted may be.
-/
import Derived.Test.YtgningcnnnjjnaaDoorKeep2
namespace Go.Proofs.YtgningcnnnjjnaaDoor
open Go.Eng

set_option maxRecDepth 100000

def setK (a b : Val) (l : List Val) (k : Str) : List Val := bif bothF a b k then l.set (posN a.keys k) (elD b k) else l
def keepV (a b : Val) (ign : List Str) : Val := ⟨a.kind, a.i, a.s, ign.foldl (setK a b) a.l, a.keys, a.tk, a.tof, a.sec⟩

/-- of what is wanted: a map's keys rise, each has an element, and it has nothing else -/
structure Good (a : Val) : Prop where
  ris : a.kind = 5 → risB a.keys = true
  len : a.kind = 5 → a.keys.length = a.l.length
  big : a.keys.length * 104 ≤ big
  i0 : a.kind = 5 → a.i = 0
  s0 : a.kind = 5 → a.s = []
  k0 : a.kind = 5 → a.tk = 0
  o0 : a.kind = 5 → a.tof = 0

theorem keysV_good {a : Val} (h : Good a) (hk : a.kind = 5) : keysV a = a.keys := by
  unfold keysV
  rw [show (a.kind != 5) = false by simp [bne, hk], cond_false, h.len hk, Nat.min_self, ← h.len hk, List.take_length]

theorem fnd_pos {v : Val} {k : Str} (h : fnd v k ≥ 0) : posN (keysV v) k < (keysV v).length ∧ fnd v k = (posN (keysV v) k : Int) := by
  unfold fnd idxV at h ⊢
  cases hb : Nat.beq (posN (keysV v) k) (keysV v).length with
  | true => rw [hb] at h; simp at h
  | false =>
    refine ⟨?_, rfl⟩
    have := posN_le (keysV v) k
    rcases Nat.lt_or_ge (posN (keysV v) k) (keysV v).length with h' | h'
    · exact h'
    · have e : posN (keysV v) k = (keysV v).length := by omega
      rw [e, Nat.beq_refl] at hb; simp at hb

theorem fnd_kind {v : Val} {k : Str} (h : fnd v k ≥ 0) : v.kind = 5 := by
  cases hk : v.kind != 5 with
  | false => simpa [bne] using hk
  | true =>
    have := (fnd_pos h).1
    unfold keysV at this
    rw [hk] at this
    simp at this

theorem bothF_spec {a b : Val} {k : Str} (h : bothF a b k = true) : fnd a k ≥ 0 ∧ fnd b k ≥ 0 := by
  unfold bothF at h
  cases h1 : decide (fnd a k ≥ 0) with
  | false => rw [h1] at h; simp at h
  | true => rw [h1] at h; exact ⟨of_decide_eq_true h1, of_decide_eq_true h⟩

theorem fold_len (a b : Val) : ∀ (ign : List Str) (l : List Val), (ign.foldl (setK a b) l).length = l.length
  | [], _ => rfl
  | k :: r, l => by
    rw [List.foldl_cons, fold_len a b r]
    unfold setK
    cases bothF a b k <;> simp

theorem fold_snoc (a b : Val) (ign : List Str) (l : List Val) {i : Nat} (hi : i < ign.length) : (ign.take (i + 1)).foldl (setK a b) l = setK a b ((ign.take i).foldl (setK a b) l) (ign.getD i []) := by
  rw [← take_snocS ign hi, List.foldl_append]; rfl

-- by the document

def oD (a b : Val) (ign : List Str) (i : Nat) : Val := keepV a b (ign.take i)

theorem step_D {a b : Val} {ign : List Str} (h : Good a) {i : Nat} (hi : i < ign.length) :
    (bothF a b (ign.getD i []) = true → inI (fnd b (ign.getD i [])) b = true ∧ okW (oD a b ign i) (ign.getD i []) = true ∧ putV (oD a b ign i) (elD b (ign.getD i [])) (ign.getD i []) = oD a b ign (i + 1)) ∧
    (bothF a b (ign.getD i []) = false → oD a b ign i = oD a b ign (i + 1)) := by
  constructor
  · intro hb
    obtain ⟨h1, h2⟩ := bothF_spec hb
    have hk := fnd_kind h1
    obtain ⟨p1, p2⟩ := fnd_pos h1
    obtain ⟨q1, q2⟩ := fnd_pos h2
    rw [keysV_good h hk] at p1 p2
    have := keysV_len b
    refine ⟨?_, ?_, ?_⟩
    · unfold inI
      rw [q2, decide_eq_true (by omega), decide_eq_true (by omega)]; rfl
    · unfold okW oD keepV
      simp only
      rw [h.ris hk, blt_t p1, fold_len, h.len hk, Nat.beq_refl, ← h.len hk, ble_t h.big]; rfl
    · unfold oD keepV
      rw [fold_snoc a b ign a.l hi]
      unfold putV setE setK
      rw [hb]
      simp only [cond_true]
      rw [h.i0 hk, h.s0 hk, h.k0 hk, h.o0 hk, hk]; rfl
  · intro hb
    unfold oD keepV
    rw [fold_snoc a b ign a.l hi]
    unfold setK
    rw [hb]; rfl

theorem ids13 : (loopsAt 13).length = 1 ∧ firstId (loopAt 13 0) = 3 ∧ loopsOf (loopAt 13 0) = [] := ⟨by kernel_rfl, by kernel_rfl, by kernel_rfl⟩

/-- one step, from whatever value -/
def stepO (a b o : Val) (k : Str) : Val := bif bothF a b k then putV o (elD b k) k else o
def okO (a o : Val) : Bool := bif a.kind != 5 then true else (o.keys == keysV a && (risB o.keys && (Nat.beq o.keys.length o.l.length && Nat.ble (o.keys.length * 104) big)))

theorem stepO_ok {a b o : Val} {k : Str} (h : okO a o = true) : okO a (stepO a b o k) = true := by
  unfold stepO
  cases bothF a b k with
  | false => exact h
  | true =>
    revert h
    unfold okO putV setE
    cases a.kind != 5 with
    | true => intro _; rfl
    | false => simp

theorem stepO_step {a b o : Val} {k : Str} (h : okO a o = true) (hb : bothF a b k = true) : inI (fnd b k) b = true ∧ okW o k = true := by
  obtain ⟨h1, h2⟩ := bothF_spec hb
  have hk := fnd_kind h1
  obtain ⟨p1, p2⟩ := fnd_pos h1
  obtain ⟨q1, q2⟩ := fnd_pos h2
  unfold okO at h
  rw [show (a.kind != 5) = false by simp [bne, hk], cond_false] at h
  simp only [Bool.and_eq_true, beq_iff_eq] at h
  obtain ⟨e1, e2, e3, e4⟩ := h
  have := keysV_len b
  refine ⟨?_, ?_⟩
  · unfold inI
    rw [q2, decide_eq_true (by omega), decide_eq_true (by omega)]; rfl
  · unfold okW
    rw [e2, e3, e4, e1, blt_t p1]; rfl

theorem foldO_ok {a b : Val} : ∀ (ign : List Str) {o : Val}, okO a o = true → okO a (ign.foldl (stepO a b) o) = true
  | [], _, h => h
  | k :: r, _, h => foldO_ok r (stepO_ok h)

def LS13 (S : St Pl) : Option (Bool × LR Pl) := match seenS 55 [3, 4, 5, 6, 7, 8] S with
  | some ([.ptr 3 0, .ptr 4 0, .ptr 5 0, .ptr 6 0, .ptr 7 0, .int .i64 (.ofNat 0)], [(7, .box false co), (6, .box false [.int .i64 (.ofNat 0), .int .i64 (.ofNat 0), .str [], .nilS, .nilS, .int .i64 (.ofNat 0), .int .i64 (.ofNat 0), .bool false]),
      (5, .box false cb), (4, .box false ca), (3, .box false [.str t, .str [], .nilS, .nilP, .nilP, .nilS, .bool false, .bool false, .pl ⟨.strs, ign⟩ .any, .nilS, .nilS, .nilS, .int .i64 (.ofNat 0), .int .i64 (.ofNat 0), .int .i64 (.ofNat 0)])]) => (match exV co, exV cb, exV ca with
    | some o, some b, some a => some (okO a o && Nat.ble ign.length big, .leaf (.exit 0) (rd t ign a b (ign.foldl (stepO a b) o)))
    | _, _, _ => none)
  | _ => none

theorem foldO_snoc (a b o : Val) (ign : List Str) {i : Nat} (hi : i < ign.length) : (ign.take (i + 1)).foldl (stepO a b) o = stepO a b ((ign.take i).foldl (stepO a b) o) (ign.getD i []) := by
  rw [← take_snocS ign hi, List.foldl_append]; rfl

theorem LS13_ok : SOk X0 (loopAt 13 0) LS13 := by
  intro S c r h hc
  unfold LS13 at h
  split at h
  · rename_i co cb ca t ign hs
    split at h
    · rename_i o b a ho hb ha
      simp only [Option.some.injEq, Prod.mk.injEq] at h
      obtain ⟨rfl, rfl⟩ := h
      simp only [Bool.and_eq_true, Nat.ble_eq] at hc
      obtain ⟨hok, hbig⟩ := hc
      obtain rfl := exV_eq ho
      obtain rfl := exV_eq hb
      obtain rfl := exV_eq ha
      refine Goes.pre (keepOf [3, 4, 5, 6, 7, 8]) ?_
      rw [seenS_mask hs]
      refine all_ofD tKd_ok (noLoops (L := noL) ids13.2.2) (k := 1) (keep := [3, 4, 5, 6, 7, 8]) (lose := []) (keep2 := [6, 7]) (Sf := fun i => kd t ign a b ((ign.take i).foldl (stepO a b) o) i) (n := ign.length) (e1 := .exit 0) (by simp) (fun i hi => ?_) ?_ ?_
      · have hnx : nx i = ((i + 1 : Nat) : Int) := wrap_nat (by omega)
        have hoi := foldO_ok (b := b) (ign.take i) hok
        rw [b13, lt_t hi, ix_t hi, ix_t hi, etaV_eq, etaV_eq, etaV_eq, foldO_snoc a b o ign hi]
        cases hbf : bothF a b (ign.getD i []) with
        | true =>
          obtain ⟨h1, h2⟩ := stepO_step hoi hbf
          have e : ∀ o, stepO a b o (ign.getD i []) = putV o (elD b (ign.getD i [])) (ign.getD i []) := fun o => by unfold stepO; rw [hbf]; rfl
          rw [e]
          simp only [cond_true]
          rw [ix_t hi, ck_t h1, ck_t h2, hnx]
        | false =>
          have e : ∀ o, stepO a b o (ign.getD i []) = o := fun o => by unfold stepO; rw [hbf]; rfl
          rw [e]
          simp only [cond_false]
          rw [hnx]
      · rw [b13, lt_f (by omega)]
      · show maskS (keepOf [6, 7]) (kd t ign a b ((ign.take ign.length).foldl (stepO a b) o) ign.length) = rd t ign a b (ign.foldl (stepO a b) o)
        rw [List.take_length]; rfl
    · simp at h
  · simp at h

theorem e13k (t : Str) (ign : List Str) (a b : Val) : evF tKd noTL (atL 3 LS13 noL) 1 Tryd.f13 [.agg (cRI t ign), .agg (cV a), .agg (cV b)] =
    ck_ (okO (etaV a) (etaV a) && Nat.ble ign.length big) (some (.agg (cV (ign.foldl (stepO (etaV a) (etaV b)) (etaV a))))) := by kernel_rfl

theorem good_ok {a : Val} (h : Good a) : okO a a = true := by
  unfold okO
  cases hk : a.kind != 5 with
  | true => rfl
  | false =>
    have hk' : a.kind = 5 := by simpa [bne] using hk
    rw [cond_false, keysV_good h hk', h.ris hk', h.len hk', Nat.beq_refl, ← h.len hk', ble_t h.big]
    simp

theorem fold_keep {a b : Val} (h : Good a) (ign : List Str) : ign.foldl (stepO a b) a = keepV a b ign := by
  have key : ∀ (ign : List Str) (l : List Val), ign.foldl (stepO a b) ⟨a.kind, a.i, a.s, l, a.keys, a.tk, a.tof, a.sec⟩ = ⟨a.kind, a.i, a.s, ign.foldl (setK a b) l, a.keys, a.tk, a.tof, a.sec⟩ := by
    intro ign
    induction ign with
    | nil => intro l; rfl
    | cons k r ih =>
      intro l
      rw [List.foldl_cons, List.foldl_cons, ← ih]
      congr 1
      unfold stepO setK
      cases hb : bothF a b k with
      | false => rfl
      | true =>
        have hk := fnd_kind (bothF_spec hb).1
        unfold putV setE
        simp only [cond_true]
        rw [h.i0 hk, h.s0 hk, h.k0 hk, h.o0 hk, hk]; rfl
  have := key ign a.l
  cases a
  exact this

theorem KeepD_sound {a : Val} (h : Good a) (t : Str) (ign : List Str) (b : Val) : Snd 13 [.agg (cRI t ign), .agg (cV a), .agg (cV b)] (.agg (cV (keepV a b ign))) := by
  refine SoundAt.rooms fun hroom => snd_fn (n := 1) tKd_ok (noTL_ok _ _) (fn := Tryd.f13) (by kernel_rfl) (loops_of (fn := Tryd.f13) (by kernel_rfl) (loops_1 ids13.1 (atL_ok (fun _ => LS13_ok) fun h => absurd ids13.2.1 h))) ((e13k t ign a b).trans ?_)
  have h2 : Room _ (.agg (cRI t ign)) := hroom _ (by simp)
  have hl : ign.length * 16 ≤ big := h2 (.pl (pStrs ign) .any) (by simp [cRI])
  rw [etaV_eq, etaV_eq, ck_t (by rw [good_ok h, ble_t (by omega)]; rfl), fold_keep h]

-- by the program

theorem ids11 : (loopsAt 11).length = 1 ∧ firstId (loopAt 11 0) = 5 ∧ loopsOf (loopAt 11 0) = [] := ⟨by kernel_rfl, by kernel_rfl, by kernel_rfl⟩

def stepP (a b : Val) (l : List Val) (k : Str) : List Val := bif cnd b l.length k (idxV a.keys k) then l.set (idxV a.keys k).toNat (elemV b k) else l

def LS11a (S : St Pl) : Option (Bool × LR Pl) := match seenS 56 [5, 6, 7, 20, 21, 22] S with
  | some ([.ptr 5 0, .ptr 6 0, .ptr 7 0, .pl ⟨.strs, ign⟩ .any, .int .i64 n, .int .i64 (.ofNat 0)], [(7, .box false [.int .i64 ak, .int .i64 ai, .str as_, .arr 14, .pl ⟨.strs, aks⟩ .any, .int .i64 atk, .int .i64 atof, .bool asec]), (14, .arr false ⟨.vals, l⟩),
      (6, .box false [.int .i64 (.ofNat 0), .int .i64 (.ofNat 0), .str [], .nilS, .nilS, .int .i64 (.ofNat 0), .int .i64 (.ofNat 0), .bool false]),
      (5, .box false cb), (4, .box false ca), (3, .box false [.str t, .str [], .nilS, .nilP, .nilP, .nilS, .bool false, .bool false, .pl ⟨.strs, g⟩ .any, .nilS, .nilS, .nilS, .int .i64 (.ofNat 0), .int .i64 (.ofNat 0), .int .i64 (.ofNat 0)])]) => (match exV cb, exV ca with
    | some b, some a => some (n == (ign.length : Int) && Nat.ble ign.length big, .leaf (.exit 0) (rp t g a b ⟨ak, ai, as_, l, aks, atk, atof, asec⟩ (ign.foldl (stepP ⟨ak, ai, as_, l, aks, atk, atof, asec⟩ b) l)))
    | _, _ => none)
  | _ => none
def LS11e (S : St Pl) : Option (Bool × LR Pl) := match seenS 56 [5, 6, 7, 20, 21, 22] S with
  | some ([.ptr 5 0, .ptr 6 0, .ptr 7 0, .pl ⟨.strs, ign⟩ .any, .int .i64 n, .int .i64 (.ofNat 0)], [(7, .box false co),
      (6, .box false [.int .i64 (.ofNat 0), .int .i64 (.ofNat 0), .str [], .nilS, .nilS, .int .i64 (.ofNat 0), .int .i64 (.ofNat 0), .bool false]),
      (5, .box false cb), (4, .box false ca), (3, .box false [.str t, .str [], .nilS, .nilP, .nilP, .nilS, .bool false, .bool false, .pl ⟨.strs, g⟩ .any, .nilS, .nilS, .nilS, .int .i64 (.ofNat 0), .int .i64 (.ofNat 0), .int .i64 (.ofNat 0)])]) => (match exV co, exV cb, exV ca with
    | some o, some b, some a => some (n == (ign.length : Int) && (Nat.ble ign.length big && Nat.beq o.l.length 0), .leaf (.exit 0) (re t g a b o))
    | _, _, _ => none)
  | _ => none

theorem foldP_snoc (o b : Val) (l : List Val) (ign : List Str) {i : Nat} (hi : i < ign.length) : (ign.take (i + 1)).foldl (stepP o b) l = stepP o b ((ign.take i).foldl (stepP o b) l) (ign.getD i []) := by
  rw [← take_snocS ign hi, List.foldl_append]; rfl

theorem cnd_spec {b : Val} {n : Nat} {k : Str} {x : Int} (h : cnd b n k x = true) : errV b k = 0 ∧ 0 ≤ x ∧ x < n := by
  unfold cnd at h
  cases h1 : errV b k == 0 with
  | false => rw [h1] at h; simp at h
  | true =>
    rw [h1] at h
    simp only [cond_true] at h
    cases h2 : decide (x ≥ 0) with
    | false => rw [h2] at h; simp at h
    | true =>
      rw [h2] at h
      exact ⟨by simpa using h1, of_decide_eq_true h2, of_decide_eq_true h⟩

def orS (A B : St Pl → Option (Bool × LR Pl)) (S : St Pl) : Option (Bool × LR Pl) := match A S with
  | some r => some r
  | none => B S
theorem orS_ok {body : Code} {A B : St Pl → Option (Bool × LR Pl)} (hA : SOk X0 body A) (hB : SOk X0 body B) : SOk X0 body (orS A B) := by
  intro S c r h hc
  unfold orS at h
  split at h
  · rename_i x hx
    simp only [Option.some.injEq] at h
    subst h
    exact hA S c r hx hc
  · exact hB S c r h hc

theorem LS11a_ok : SOk X0 (loopAt 11 0) LS11a := by
  intro S c r h hc
  have hT : TOk (tGI tell0) := tGI_ok (tell0_ok _)
  unfold LS11a at h
  split at h
  · rename_i ign n ak ai as_ aks atk atof asec l cb ca t g hs
    split at h
    · rename_i b a hb ha
      simp only [Option.some.injEq, Prod.mk.injEq] at h
      obtain ⟨rfl, rfl⟩ := h
      simp only [Bool.and_eq_true, Nat.ble_eq, beq_iff_eq] at hc
      obtain ⟨rfl, hbig⟩ := hc
      obtain rfl := exV_eq hb
      obtain rfl := exV_eq ha
      refine Goes.pre (keepOf [5, 6, 7, 20, 21, 22]) ?_
      rw [seenS_mask hs]
      generalize ho : (⟨ak, ai, as_, l, aks, atk, atof, asec⟩ : Val) = o
      have hc7 : ([.int .i64 ak, .int .i64 ai, .str as_, .arr 14, .pl ⟨.strs, aks⟩ .any, .int .i64 atk, .int .i64 atof, .bool asec] : List (D Pl)) = cO o := by subst ho; rfl
      rw [hc7]
      refine all_ofD hT (noLoops (L := noL) ids11.2.2) (k := 1) (keep := [5, 6, 7, 20, 21, 22]) (lose := [10]) (keep2 := [6, 7]) (Sf := fun i => kp t g ign a b o ((ign.take i).foldl (stepP o b) l) i) (n := ign.length) (e1 := .exit 0) (by simp) (fun i hi => ?_) ?_ ?_
      · have hnx : IntKind.i64.wrap ((i : Int) + 1) = ((i + 1 : Nat) : Int) := wrap_nat (by omega)
        rw [b11, lt_t hi, ix_t hi, etaV_eq, etaV_eq, hnx, foldP_snoc o b l ign hi]
        generalize (ign.take i).foldl (stepP o b) l = li
        unfold stepP
        cases hcd : cnd b li.length (ign.getD i []) (idxV o.keys (ign.getD i [])) with
        | true =>
          obtain ⟨_, h1, h2⟩ := cnd_spec hcd
          simp only [cond_true]
          rw [ck_t (by rw [decide_eq_true h1, decide_eq_true h2]; rfl)]
          unfold six_
          rw [decide_eq_true (by omega)]; rfl
        | false => rfl
      · rw [b11, lt_f (by omega)]
      · show maskS (keepOf [6, 7]) (kp t g ign a b o ((ign.take ign.length).foldl (stepP o b) l) ign.length) = rp t g a b o (ign.foldl (stepP o b) l)
        rw [List.take_length]; rfl
    · simp at h
  · simp at h

theorem LS11e_ok : SOk X0 (loopAt 11 0) LS11e := by
  intro S c r h hc
  have hT : TOk (tGI tell0) := tGI_ok (tell0_ok _)
  unfold LS11e at h
  split at h
  · rename_i ign n co cb ca t g hs
    split at h
    · rename_i o b a ho hb ha
      simp only [Option.some.injEq, Prod.mk.injEq] at h
      obtain ⟨rfl, rfl⟩ := h
      simp only [Bool.and_eq_true, Nat.ble_eq, beq_iff_eq] at hc
      obtain ⟨rfl, hbig, h0⟩ := hc
      have h0 := Nat.eq_of_beq_eq_true h0
      obtain rfl := exV_eq ho
      obtain rfl := exV_eq hb
      obtain rfl := exV_eq ha
      refine Goes.pre (keepOf [5, 6, 7, 20, 21, 22]) ?_
      rw [seenS_mask hs]
      refine all_ofD hT (noLoops (L := noL) ids11.2.2) (k := 1) (keep := [5, 6, 7, 20, 21, 22]) (lose := [10]) (keep2 := [6, 7]) (Sf := fun i => ke t g ign a b o i) (n := ign.length) (e1 := .exit 0) (by simp) (fun i hi => ?_) ?_ ?_
      · have hnx : IntKind.i64.wrap ((i : Int) + 1) = ((i + 1 : Nat) : Int) := wrap_nat (by omega)
        rw [b11e, lt_t hi, ix_t hi, etaV_eq, hnx]
        cases hcd : cnd b o.l.length (ign.getD i []) (idxV o.keys (ign.getD i [])) with
        | true => obtain ⟨_, h1, h2⟩ := cnd_spec hcd; omega
        | false => rfl
      · rw [b11e, lt_f (by omega)]
      · rfl
    · simp at h
  · simp at h

def keepP (a b : Val) (ign : List Str) : Val := ⟨a.kind, a.i, a.s, ign.foldl (stepP a b) a.l, a.keys, a.tk, a.tof, a.sec⟩
theorem e11o (t : Str) (ign : List Str) (a b : Val) : evF (tCo (tGI tell0)) noTL (atL 5 (orS LS11a LS11e) noL) 1 Tryd.f11 [.agg (cRI t ign), .agg (cV a), .agg (cV b)] =
    ck_ (!(Nat.beq a.l.length 0)) (bif a.kind != 5 then some (.agg (cV a)) else ck_ (((ign.length : Int) == (ign.length : Int)) && Nat.ble ign.length big) (some (.agg (cV (keepP (etaV a) (etaV b) ign))))) := by kernel_rfl
theorem e11e (t : Str) (ign : List Str) (a b : Val) : evF (tCe (tGI tell0)) noTL (atL 5 (orS LS11a LS11e) noL) 1 Tryd.f11 [.agg (cRI t ign), .agg (cV a), .agg (cV b)] =
    bif a.kind != 5 then some (.agg (cV a)) else ck_ (((ign.length : Int) == (ign.length : Int)) && (Nat.ble ign.length big && Nat.beq a.l.length 0)) (some (.agg (cV a))) := by kernel_rfl

end Go.Proofs.YtgningcnnnjjnaaDoor

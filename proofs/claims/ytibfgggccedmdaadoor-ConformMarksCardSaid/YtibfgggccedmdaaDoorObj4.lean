/-
  THE DOCUMENT's 'Object'; that it is the program's.
-/
import Derived.Test.YtibfgggccedmdaaDoorObj
namespace Go.Proofs.YtibfgggccedmdaaDoor
open Go.Eng

set_option maxRecDepth 100000

def posV (v : Val) (k : Str) : Int := idxV (keysV v) k
def atV (v : Val) (k : Str) : Val := v.l.getD (posV v k).toNat default
def inP (v : Val) (P : Int) : Bool := decide (0 ≤ P) && decide (P < (v.l.length : Int))
def badO (v : Val) (a : AttrR) : Bool := bif decide (posV v a.name < 0) then true else badA (atV v a.name) a

def tO4 : Eng.Told Pl := tell 28 (pSt fun t => (true, .pl (pAttrs (attrsV t)) .any)) (tFind (tell 47 (pvt fun v a b => (true, .bool (fitsV v a b))) tell0))
theorem tO4_ok : TOk tO4 := tell_ok (pSt_ok fun t _ => Attrs_sound t) (tFind_ok (tell_ok (pvt_ok fun v a b _ => fits4_sound v a b) (tell0_ok _)))

def sO4 (v : Val) (l : List AttrR) (x i : Int) : St Pl := mkS 74 [(3, .ptr 3 0), (4, dI x), (5, .pl (pAttrs l) .any), (6, dI i)] [(3, .box false (cV v))]
def rO4 (v : Val) (x : Int) : St Pl := mkS 74 [(4, dI x)] [(3, .box false (cV v))]

theorem bO4 (v : Val) (l : List AttrR) (i : Nat) : evD tO4 noTL noL 1 (loopAt 27 0) [3, 4, 5, 6] [] (sO4 v l 0 i) =
    lt_ i l.length (ix_ i l.length (ck_ (inP v (posV (etaV v) (l.getD i default).name) || !(decide (posV (etaV v) (l.getD i default).name < 0) == false)) (ixo_ i l.length (decide (posV (etaV v) (l.getD i default).name < 0) == false)
      (bif (decide (posV (etaV v) (l.getD i default).name < 0) == false) then ixo_ i l.length ((!(fitsV (etaV (v.l.getD (posV (etaV v) (l.getD i default).name).toNat default)) (l.getD i default).tk (l.getD i default).tof)) == false)
        (ck_ (inP v (posV (etaV v) (l.getD i default).name) || !(((l.getD i default).need == true) && ((!(fitsV (etaV (v.l.getD (posV (etaV v) (l.getD i default).name).toNat default)) (l.getD i default).tk (l.getD i default).tof)) == false)))
          (bif badA (etaV (v.l.getD (posV (etaV v) (l.getD i default).name).toNat default)) (l.getD i default) then some (.ret, sO4 v l 8 i) else some (.normal, sO4 v l 0 (IntKind.i64.wrap ((i : Int) + 1)))))
       else ck_ ((true && decide ((i : Int) < (l.length : Int))) || true) (ck_ (inP v (posV (etaV v) (l.getD i default).name) || !(((l.getD i default).need == true) && false)) (some (.ret, sO4 v l 8 i))))))) (some (.exit 0, sO4 v l 0 i)) := by kernel_rfl

theorem idsO4 : (loopsAt 27).length = 1 ∧ firstId (loopAt 27 0) = 7 ∧ loopsOf (loopAt 27 0) = [] := ⟨by kernel_rfl, by kernel_rfl, by kernel_rfl⟩

def LSO4 (S : St Pl) : Option (Bool × LR Pl) := match seenS 74 [3, 4, 5, 6] S with
  | some ([.ptr 3 0, .int .i64 (.ofNat 0), .pl ⟨.attrs, l⟩ .any, .int .i64 (.ofNat 0)], [(3, .box false c)]) => (match exV c with
    | some v => some (Nat.ble l.length big, .ite ((List.range l.length).all fun i => !(badO v (l.getD i default))) (.leaf (.exit 0) (rO4 v 0)) (.leaf .ret (rO4 v 8)))
    | none => none)
  | _ => none

theorem posV_in (v : Val) (k : Str) : posV v k < 0 ∨ inP v (posV v k) = true := by
  unfold posV idxV
  cases h : Nat.beq (posN (keysV v) k) (keysV v).length with
  | true => left; show (-1 : Int) < 0; decide
  | false =>
    right
    have h1 := posN_le (keysV v) k
    have h2 := keysV_len v
    have h3 : posN (keysV v) k ≠ (keysV v).length := by intro e; rw [e, Nat.beq_refl] at h; simp at h
    unfold inP
    simp only [cond_false]
    rw [decide_eq_true (by omega), decide_eq_true (by omega)]; rfl

theorem ck_r {β : Type} {a b : Bool} (h : b = true) (x : Option β) : ck_ (a || b) x = x := ck_t (by rw [h, Bool.or_true]) x
theorem ck_l {β : Type} {a b : Bool} (h : a = true) (x : Option β) : ck_ (a || b) x = x := ck_t (by rw [h]; rfl) x

theorem LSO4_ok : SOk X0 (loopAt 27 0) LSO4 := by
  intro S b r h hb
  unfold LSO4 at h
  split at h
  · rename_i l c hs
    split at h
    · rename_i v hv
      simp only [Option.some.injEq, Prod.mk.injEq] at h
      obtain ⟨rfl, rfl⟩ := h
      simp only [Nat.ble_eq] at hb
      obtain rfl := exV_eq hv
      refine Goes.pre (keepOf [3, 4, 5, 6]) ?_
      rw [seenS_mask hs]
      refine search_ofD tO4_ok idsO4.2.2 (k := 1) (keep := [3, 4, 5, 6]) (lose := []) (keep2 := [4]) (Sf := fun i => sO4 v l 0 i) (S2' := fun i => sO4 v l 8 i) (n := l.length) (p := fun i => !(badO v (l.getD i default))) (by simp) (by simp) (fun i hi => ?_) ?_ (by kernel_rfl) (fun i => by kernel_rfl)
      · refine (bO4 v l i).trans ?_
        rw [etaV_eq, etaV_eq, lt_t hi, ix_t hi, ixo_t hi, ixo_t hi, wrap_nat (show i ≤ big by omega)]
        unfold badO atV
        rcases posV_in v (l.getD i default).name with h | h
        · rw [decide_eq_true h, ck_r (b := !((true : Bool) == false)) rfl, show ((true : Bool) == false) = false from rfl]
          simp only [cond_false]
          rw [ck_r (b := true) rfl, ck_r (b := !(((l.getD i default).need == true) && false)) (by rw [Bool.and_false]; rfl)]
          rfl
        · have h0 : ¬ posV v (l.getD i default).name < 0 := by
            unfold inP at h
            simp only [Bool.and_eq_true, decide_eq_true_eq] at h
            omega
          rw [decide_eq_false h0, h, ck_l (a := true) rfl, show ((false : Bool) == false) = true from rfl]
          simp only [cond_true]
          rw [ck_l (a := true) rfl]
          cases badA (v.l.getD (posV v (l.getD i default).name).toNat default) (l.getD i default) <;> rfl
      · exact (bO4 v l l.length).trans (by rw [lt_f (by omega)])
    · simp at h
  · simp at h

noncomputable def tO4b : Eng.Told Pl := tell 28 (pSt fun t => (true, .pl (pAttrs (attrsV t)) .any)) (tell 5 (p1 fun v => (okV v, .bool true)) tell0)
theorem tO4b_ok : TOk tO4b := tell_ok (pSt_ok fun t _ => Attrs_sound t) (tell_ok (p1_ok fun v h => by have h : okV v = true := h; have := okV_sound v; rw [h] at this; exact this) (tell0_ok _))

theorem eO4 (t : Str) (v : Val) : evF tO4b noTL (atL 7 LSO4 noL) 1 Tryd.f27 [.str t, .agg (cV v)] =
    bif (((attrsV t).length : Int) == 0) then some (dI 9) else bif ((v.kind != 5) == false) then ck_ (okV (etaV v)) (bif ((v.keys.length : Int) != ((attrsV t).length : Int)) then some (dI 8) else
      ck_ (Nat.ble (attrsV t).length big) (bif (List.range (attrsV t).length).all (fun i => !(badO (etaV v) ((attrsV t).getD i default))) then some (dI 0) else some (dI 8))) else some (dI 8) := by kernel_rfl

def obj4V (t : Str) (v : Val) : Int := bif (errA t != 0) then errA t else bif v.kind != 5 then 8 else bif ((v.keys.length : Int) != ((attrsV t).length : Int)) then 8 else bif (List.range (attrsV t).length).all (fun i => !(badO v ((attrsV t).getD i default))) then 0 else 8

theorem errA_eq (t : Str) : (errA t != 0) = (((attrsV t).length : Int) == 0) ∧ ((errA t != 0) = true → errA t = 9) := by
  unfold errA
  cases h : Nat.beq (attrsV t).length 0 with
  | true =>
    have := Nat.eq_of_beq_eq_true h
    rw [this]; exact ⟨rfl, fun _ => rfl⟩
  | false =>
    refine ⟨?_, fun h => by simp at h⟩
    have : ¬ (attrsV t).length = 0 := by intro e; rw [e] at h; simp at h
    have : (((attrsV t).length : Int) == 0) = false := by rw [beq_eq_false_iff_ne]; omega
    rw [this]; rfl

theorem object4_sound (t : Str) (v : Val) (h : okV v = true) : Snd 27 [.str t, .agg (cV v)] (dI (obj4V t v)) := by
  refine snd_fn (n := 1) tO4b_ok (noTL_ok _ _) (fn := Tryd.f27) (by kernel_rfl) (loops_of (f := 27) (fn := Tryd.f27) (by kernel_rfl) (loops_1 idsO4.1 (atL_ok (fun _ => LSO4_ok) fun h => absurd idsO4.2.1 h))) ((eO4 t v).trans ?_)
  have ha := attrs_len t
  have hbig : big = 140737488355328 := rfl
  rw [etaV_eq, ck_t h, ck_t (ble_t (by omega)), ← (errA_eq t).1]
  unfold obj4V
  cases he : errA t != 0 with
  | true => rw [(errA_eq t).2 he]; rfl
  | false =>
    cases hk : v.kind != 5 with
    | true => rfl
    | false =>
      cases hn : ((v.keys.length : Int) != ((attrsV t).length : Int)) with
      | true => rfl
      | false =>
        simp only [cond_false, beq_self_eq_true, cond_true]
        cases (List.range (attrsV t).length).all (fun i => !(badO v ((attrsV t).getD i default))) <;> rfl

-- the law

theorem names_lt (t : Str) : (List.range (attrsV t).length).all (fun i => bif Nat.beq i 0 then true else ltS ((attrsV t).getD (i - 1) default).name ((attrsV t).getD i default).name) = true := by
  unfold attrsV
  cases t == a_disk with
  | true => simp only [cond_true]; decide
  | false =>
    simp only [cond_false]
    cases t == a_node with
    | true => simp only [cond_true]; decide
    | false =>
      simp only [cond_false]
      cases t == a_note with
      | true => simp only [cond_true]; decide
      | false =>
        simp only [cond_false]
        cases t == a_rule <;> decide

theorem chain_lt {f : Nat → Str} {n : Nat} (h : ∀ i, i + 1 < n → ltS (f i) (f (i + 1)) = true) {i j : Nat} (hij : i < j) (hj : j < n) : ltS (f i) (f j) = true := by
  obtain ⟨d, rfl⟩ : ∃ d, j = i + d + 1 := ⟨j - i - 1, by omega⟩
  clear hij
  induction d with
  | zero => exact h i hj
  | succ d ih => exact ltS_trans (ih (by omega)) (h (i + d + 1) hj)

theorem mono_id {n : Nat} {f : Nat → Nat} (h : ∀ i, i + 1 < n → f i < f (i + 1)) (hn : ∀ i, i < n → f i < n) : ∀ i, i < n → f i = i := by
  have h1 : ∀ i, i < n → i ≤ f i := by
    intro i
    induction i with
    | zero => intro _; omega
    | succ i ih => intro hi; have := ih (by omega); have := h i hi; omega
  have h2 : ∀ d i, i + d + 1 = n → f i ≤ i := by
    intro d
    induction d with
    | zero => intro i hi; have := hn i (by omega); omega
    | succ d ih => intro i hi; have := ih (i + 1) (by omega); have := h i (by omega); omega
  intro i hi
  have := h1 i hi
  have := h2 (n - i - 1) i (by omega)
  omega

theorem posN_first {l : List Str} {k : Str} {i : Nat} (hi : i < l.length) (hk : k = l.getD i []) (hno : ∀ j, j < i → k ≠ l.getD j []) : posN l k = i := by
  unfold posN
  rcases ff_spec l.length (fun i => !(k == l.getD i [])) with ⟨h1, h2⟩ | ⟨h1, h2, h3⟩
  · have := h2 i hi
    rw [hk, beq_self_eq_true] at this; simp at this
  · rcases Nat.lt_trichotomy (ff (fun i => !(k == l.getD i [])) l.length) i with h | h | h
    · have h2' : (k == l.getD (ff (fun i => !(k == l.getD i [])) l.length) []) = true := by simpa using h2
      exact absurd (beq_iff_eq.1 h2') (hno _ h)
    · exact h
    · have := h3 i h
      rw [hk, beq_self_eq_true] at this; simp at this

theorem posN_at {l : List Str} {k : Str} (h : posN l k < l.length) : l.getD (posN l k) [] = k := by
  unfold posN at *
  rcases ff_spec l.length (fun i => !(k == l.getD i [])) with ⟨h1, _⟩ | ⟨_, h2, _⟩
  · omega
  · have : (k == l.getD (ff (fun i => !(k == l.getD i [])) l.length) []) = true := by simpa using h2
    exact (beq_iff_eq.1 this).symm

theorem keysV_full {v : Val} (hk : (v.kind != 5) = false) (hl : v.keys.length = v.l.length) : keysV v = v.keys := by
  unfold keysV
  rw [hk, hl, Nat.min_self]
  simp only [cond_false]
  rw [← hl, List.take_length]

theorem okKeys_lt {v : Val} (h : okV v = true) : ∀ i, i + 1 < v.keys.length → ltS (v.keys.getD i []) (v.keys.getD (i + 1) []) = true := by
  obtain ⟨_, _, _, _, _, _, h7⟩ := ndV_spec (okV_nd h)
  intro i hi
  have : (!(bif long (v.keys.getD (i + 1) []) then true else !(Op.bytesLess (v.keys.getD i []) (v.keys.getD (i + 1) [])))) = true := List.all_eq_true.1 h7 (i + 1) (by simpa using hi)
  cases hl : long (v.keys.getD (i + 1) []) with
  | true => rw [hl] at this; simp at this
  | false => rw [hl] at this; simpa [ltS] using this

theorem obj_all_law (t : Str) {v : Val} (h : okV v = true) (hk : (v.kind != 5) = false) (hn : v.keys.length = (attrsV t).length) :
    ((List.range (attrsV t).length).all (okO v (attrsV t))) = (List.range (attrsV t).length).all fun i => !(badO v ((attrsV t).getD i default)) := by
  have hl := okV_len h hk
  have hkv := keysV_full hk hl
  have hlt := okKeys_lt h
  have hnm : ∀ i, i + 1 < (attrsV t).length → ltS ((attrsV t).getD i default).name ((attrsV t).getD (i + 1) default).name = true := by
    intro i hi
    have := List.all_eq_true.1 (names_lt t) (i + 1) (by simpa using hi)
    exact this
  have key : (∀ i, i < (attrsV t).length → v.keys.getD i [] = ((attrsV t).getD i default).name) → ∀ i, i < (attrsV t).length → posV v ((attrsV t).getD i default).name = (i : Int) := by
    intro hall i hi
    unfold posV idxV
    have hp : posN (keysV v) ((attrsV t).getD i default).name = i := by
      rw [hkv]
      refine posN_first (by omega) (hall i hi).symm fun j hj he => ?_
      have := chain_lt hlt hj (by omega)
      rw [hall i hi, ← he, ltS_irr] at this
      simp at this
    rw [hp, hkv]
    have : Nat.beq i v.keys.length = false := by
      cases e : Nat.beq i v.keys.length with
      | false => rfl
      | true => have := Nat.eq_of_beq_eq_true e; omega
    rw [this]; rfl
  rw [Bool.eq_iff_iff, List.all_eq_true, List.all_eq_true]
  simp only [List.mem_range]
  constructor
  · intro hP i hi
    have hall : ∀ i, i < (attrsV t).length → v.keys.getD i [] = ((attrsV t).getD i default).name := by
      intro j hj
      have := hP j hj
      unfold okO at this
      simp only [Bool.and_eq_true, beq_iff_eq] at this
      exact this.1
    have hp := key hall i hi
    have := hP i hi
    unfold okO at this
    rw [etaV_eq] at this
    simp only [Bool.and_eq_true, Bool.not_eq_true'] at this
    unfold badO atV
    rw [hp, Int.toNat_natCast, decide_eq_false (by omega), cond_false, this.2]
    rfl
  · intro hD
    have hpos : ∀ i, i < (attrsV t).length → posN v.keys ((attrsV t).getD i default).name < v.keys.length ∧ posV v ((attrsV t).getD i default).name = (posN v.keys ((attrsV t).getD i default).name : Int) := by
      intro i hi
      have := hD i hi
      unfold badO posV idxV at this
      unfold posV idxV
      rw [hkv] at this ⊢
      have hle := posN_le v.keys ((attrsV t).getD i default).name
      cases e : Nat.beq (posN v.keys ((attrsV t).getD i default).name) v.keys.length with
      | true => rw [e] at this; simp at this
      | false =>
        refine ⟨?_, rfl⟩
        have : posN v.keys ((attrsV t).getD i default).name ≠ v.keys.length := by intro h; rw [h, Nat.beq_refl] at e; simp at e
        omega
    have hid := mono_id (n := (attrsV t).length) (f := fun i => posN v.keys ((attrsV t).getD i default).name) (fun i hi => by
      obtain ⟨h1, _⟩ := hpos i (by omega)
      obtain ⟨h2, _⟩ := hpos (i + 1) hi
      have e1 := posN_at h1
      have e2 := posN_at h2
      have hlt2 := hnm i hi
      rcases Nat.lt_trichotomy (posN v.keys ((attrsV t).getD i default).name) (posN v.keys ((attrsV t).getD (i + 1) default).name) with h | h | h
      · exact h
      · rw [h, e2] at e1
        rw [e1, ltS_irr] at hlt2; simp at hlt2
      · have := chain_lt hlt h (by omega)
        rw [e1, e2] at this
        rw [ltS_asymm this] at hlt2; simp at hlt2) (fun i hi => by have := (hpos i hi).1; omega)
    intro i hi
    obtain ⟨h1, h2⟩ := hpos i hi
    have e1 := posN_at h1
    have h3 := hid i hi
    rw [h3] at e1 h2
    have := hD i hi
    unfold badO atV at this
    rw [h2, Int.toNat_natCast, decide_eq_false (by omega), cond_false] at this
    unfold okO
    rw [etaV_eq, e1, beq_self_eq_true, Bool.true_and]
    exact this

theorem object_law (t : Str) {v : Val} (h : okV v = true) : objV t v = obj4V t v := by
  unfold objV obj4V
  cases errA t != 0 with
  | true => rfl
  | false =>
    cases hk : v.kind != 5 with
    | true => rfl
    | false =>
      cases hn : ((v.keys.length : Int) != ((attrsV t).length : Int)) with
      | true => rfl
      | false =>
        simp only [cond_false]
        rw [obj_all_law t h hk (by have := bne_eq_false_iff_eq.1 hn; omega)]

end Go.Proofs.YtibfgggccedmdaaDoor

/-
  WHETHER ITEMS ARE THE SAME: the program's 'one' and 'Same'; the document's Same, with places or without.
-/
import Derived.Test.YtjmlnjjinhmanaaGreatDoorItems
import Derived.Test.YtjmlnjjinhmanaaGreatDoorEngRn
namespace Go.Proofs.YtjmlnjjinhmanaaGreatDoor
open Go.Eng

set_option maxRecDepth 100000

def m25 (a b : ItemR) : Bool := bif a.block == b.block then a.name == b.name else false
noncomputable def tO (n : Nat) : Eng.Told Pl := tell 39 pEqual (tell 40 (pe2 fun a b => (true, .bool (sameE a b))) (tell 24 (pEqI n) tell0))
theorem e25 (a b : ItemR) (n : Nat) : evF (tO n) noTL noL 1 Tryz.f25 [.agg (cItem a), .agg (cItem b)] =
    bif (m25 a b == true) then (bif ((a.labels == b.labels) == true) then (bif (sameE (etaE a.e) (etaE b.e) == true) then ck_ (Nat.blt (iszs a.items) n) (some (.bool (eqIs a.items b.items))) else some (.bool false)) else some (.bool false)) else some (.bool false) := by kernel_rfl

theorem eqIs_eq (a b : List ItemR) : eqIs a b = sameIs false a b := by
  unfold eqIs
  by_cases h : a.length = b.length
  · rw [h]; simp
  · rw [show ((a.length : Int) == (b.length : Int)) = false by rw [beq_eq_false_iff_ne]; omega]
    cases hs : sameIs false a b with
    | false => rfl
    | true => exact absurd (sameIs_len false hs) h

theorem one_n : ∀ n a b, isz a < n → Snd 25 [.agg (cItem a), .agg (cItem b)] (.bool (sameI false a b)) := by
  intro n
  induction n with
  | zero => intro a b h; omega
  | succ n ih =>
    intro a b hlt
    have hT : TOk (tIsm n) := tell_ok (pi2_ok fun a b h => ih a b (by simp only [Nat.blt_eq] at h; exact h)) (tell0_ok _)
    have h1 : iszs a.items < n := by have := isz_eq a; omega
    refine snd_fn (n := 1) (tell_ok pEqual_ok (tell_ok (pe2_ok fun a b _ => esame_sound a b) (tell_ok (pEqI_ok hT) (tell0_ok _)))) (noTL_ok _ _) (fn := Tryz.f25) (by kernel_rfl) (loops_of (f := 25) (fn := Tryz.f25) (by kernel_rfl) (loops_0 (by kernel_rfl))) ((e25 a b n).trans ?_)
    rw [sameI_eq, ck_t (blt_t h1), etaE_eq, etaE_eq, eqIs_eq]
    unfold iHd m25
    rw [sameEm_false]
    cases a.block == b.block <;> cases a.name == b.name <;> cases a.labels == b.labels <;> cases sameE a.e b.e <;> rfl
theorem eI (a b : List ItemR) (n : Nat) : evF (tell 24 (pEqI n) tell0) noTL noL 1 Tryz.f10 [.pl (pItems a) .any, .pl (pItems b) .any] = ck_ (Nat.blt (iszs a) n) (some (.bool (eqIs a b))) := by kernel_rfl
theorem isame_sound (a b : List ItemR) : Snd 10 [.pl (pItems a) .any, .pl (pItems b) .any] (.bool (sameIs false a b)) := by
  have hT : TOk (tIsm (iszs a + 1)) := tell_ok (pi2_ok fun a b h => one_n _ a b (by simp only [Nat.blt_eq] at h; exact h)) (tell0_ok _)
  refine snd_fn (n := 1) (tell_ok (pEqI_ok hT) (tell0_ok _)) (noTL_ok _ _) (fn := Tryz.f10) (by kernel_rfl) (loops_of (f := 10) (fn := Tryz.f10) (by kernel_rfl) (loops_0 (by kernel_rfl))) ((eI a b (iszs a + 1)).trans ?_)
  rw [ck_t (blt_t (Nat.lt_succ_self _)), eqIs_eq]

-- the document's

/-- What is in the elements' reach. -/
def RoomIn (C : Pay Pl) : D Pl → Prop
  | .pl p _ => ∀ i, i < C.len p → ∀ d ∈ C.elem p i, Room0 C d
  | _ => True
theorem roomsIn {P : Program} {C : Pay Pl} {glob : Nat → Option (List (D Pl))} {f : FuncId} {ds : List (D Pl)} {d : D Pl} (h : (∀ d ∈ ds, RoomIn C d) → SoundAt P C glob f ds d) : SoundAt P C glob f ds d := by
  intro w av vs hg ha hs hr
  refine h (fun d hd => ?_) w av vs hg ha hs hr
  obtain ⟨i, hi⟩ := List.mem_iff_getElem?.1 hd
  have hlt : i < ds.length := (List.getElem?_eq_some_iff.1 hi).1
  have hlv : i < vs.size := by omega
  have hrd := hr i _ d (Array.getElem?_eq_getElem hlv) hi
  generalize vs[i] = v at hrd
  cases d with
  | pl p k =>
    intro j hj e he
    cases hrd with
    | pl0 _ _ _ _ hl _ => omega
    | pl b off n c _ _ vs hn _ _ _ _ _ _ hrd =>
      obtain ⟨q, hq⟩ := List.mem_iff_getElem?.1 he
      exact (hrd j q e (by omega) hq).room0
  | _ => trivial
theorem items_room {C : Pay Pl} {a : List ItemR} (hC : C = X0.C) (h : RoomIn C (.pl (pItems a) .any)) : (a.all fun x => Nat.ble x.labels.length big) = true := by
  subst hC
  rw [List.all_eq_true]
  intro x hx
  obtain ⟨i, hi, rfl⟩ := List.mem_iff_getElem.1 hx
  have := h i hi (.pl (pStrs (a[i]).labels) .any) (by
    show _ ∈ cItem (a.getD i default)
    rw [List.getD_eq_getElem?_getD, List.getElem?_eq_getElem hi]
    simp [cItem])
  have h2 : (a[i]).labels.length * 16 ≤ big := this
  exact ble_t (by omega)

def s9k (m : Bool) (a b : List ItemR) (x y : ItemR) (i k : Int) : St Pl := mkS 95 [(0, .pl (pItems a) .any), (1, .pl (pItems b) .any), (2, .bool m), (6, .bool false), (7, dI i), (8, .ptr 8 0), (9, .ptr 9 0), (10, dI k)] [(9, .box false (cItem y)), (8, .box false (cItem x))]
def s9j (m : Bool) (a b : List ItemR) (x y : ItemR) (i : Int) : St Pl := mkS 95 [(0, .pl (pItems a) .any), (1, .pl (pItems b) .any), (2, .bool m), (6, .bool false), (7, dI i), (8, .ptr 8 0), (9, .ptr 9 0)] [(9, .box false (cItem y)), (8, .box false (cItem x))]
theorem b9k (m : Bool) (a b : List ItemR) (x y : ItemR) (i : Int) (k : Nat) : evD tell0 noTL noL 1 (loopAt 8 1) [0, 1, 2, 6, 7, 8, 9, 10] [] (s9k m a b x y i k) =
    lt_ k x.labels.length (ix_ k x.labels.length (ix_ k y.labels.length (bif !(x.labels.getD k [] == y.labels.getD k []) then some (.ret, s9k m a b x y i k) else some (.normal, s9k m a b x y i (IntKind.i64.wrap ((k : Int) + 1)))))) (some (.exit 2, s9k m a b x y i k)) := by kernel_rfl
theorem ids9 : (loopsAt 8).length = 2 ∧ firstId (loopAt 8 0) = 4 ∧ firstId (loopAt 8 1) = 10 ∧ loopsOf (loopAt 8 1) = [] ∧ loopsOf (loopAt 8 0) = [loopAt 8 1] := ⟨by kernel_rfl, by kernel_rfl, by kernel_rfl, by kernel_rfl, by kernel_rfl⟩

def LSK (S : St Pl) : Option (Bool × LR Pl) := match seenS 95 [0, 1, 2, 6, 7, 8, 9, 10] S with
  | some ([.pl ⟨.items, a⟩ .any, .pl ⟨.items, b⟩ .any, .bool m, .bool false, .int .i64 i, .ptr 8 0, .ptr 9 0, .int .i64 (.ofNat 0)], [(9, .box false cy), (8, .box false cx)]) => match exI cx, exI cy with
    | some x, some y => some (Nat.beq x.labels.length y.labels.length && Nat.ble x.labels.length big, .ite ((List.range x.labels.length).all fun k => x.labels.getD k [] == y.labels.getD k []) (.leaf (.exit 2) (s9j m a b x y i)) (.leaf .ret (s9j m a b x y i)))
    | _, _ => none
  | _ => none
theorem LSK_ok : SOk X0 (loopAt 8 1) LSK := by
  intro S c r h hc
  unfold LSK at h
  split at h
  · rename_i a b m i cy cx hs
    split at h
    · rename_i x y hx hy
      simp only [Option.some.injEq, Prod.mk.injEq] at h
      obtain ⟨rfl, rfl⟩ := h
      simp only [Bool.and_eq_true, Nat.ble_eq] at hc
      have hl := Nat.eq_of_beq_eq_true hc.1
      obtain rfl := exI_eq hx
      obtain rfl := exI_eq hy
      refine Goes.pre (keepOf [0, 1, 2, 6, 7, 8, 9, 10]) ?_
      rw [seenS_mask hs]
      refine search_ofD (tell0_ok _) ids9.2.2.2.1 (k := 1) (keep := [0, 1, 2, 6, 7, 8, 9, 10]) (lose := []) (keep2 := [0, 1, 2, 6, 7, 8, 9]) (Sf := fun k => s9k m a b x y i k) (S2' := fun k => s9k m a b x y i k) (p := fun k => x.labels.getD k [] == y.labels.getD k []) (by simp) (by simp) (fun k hk => ?_) ?_ rfl (fun k => rfl)
      · show evD tell0 noTL noL 1 (loopAt 8 1) [0, 1, 2, 6, 7, 8, 9, 10] [] (s9k m a b x y i k) = _
        rw [b9k, lt_t hk, ix_t hk, ix_t (by omega), wrap_nat (by omega)]
        cases x.labels.getD k [] == y.labels.getD k [] <;> rfl
      · show evD tell0 noTL noL 1 (loopAt 8 1) [0, 1, 2, 6, 7, 8, 9, 10] [] (s9k m a b x y i x.labels.length) = _
        rw [b9k, lt_f (by omega)]
    · simp at h
  · simp at h

def s9 (m : Bool) (a b : List ItemR) (i : Int) : St Pl := mkS 95 [(0, .pl (pItems a) .any), (1, .pl (pItems b) .any), (2, .bool m), (6, .bool false), (7, dI i)] []
noncomputable def t9 (n : Nat) : Eng.Told Pl := tell 22 (pe2b fun a b m => (true, .bool (sameEm m a b))) (tell 8 (pl2b fun a b m => (Nat.blt (iszs a) n, .bool (sameIs m a b))) tell0)
def n9 (m : Bool) (x y : ItemR) : Bool := bif (bif (bif !(x.block == y.block) then true else !(x.name == y.name)) then true else ((x.labels.length : Int) != (y.labels.length : Int))) then true else bif m then !(posEq x.p y.p) else false
def in9 (m : Bool) (n : Nat) (a b : List ItemR) (i : Nat) (x y : ItemR) : Option (Ex × St Pl) :=
  bif n9 m x y then some (.ret, s9 m a b i) else ck_ (Nat.beq x.labels.length y.labels.length && Nat.ble x.labels.length big) (bif (List.range x.labels.length).all (fun k => x.labels.getD k [] == y.labels.getD k []) then
    (bif ((!(sameEm m (etaE x.e) (etaE y.e))) == false) then ck_ (Nat.blt (iszs x.items) n) (bif !(sameIs m x.items y.items) then some (.ret, s9 m a b i) else some (.normal, s9 m a b (IntKind.i64.wrap ((i : Int) + 1)))) else some (.ret, s9 m a b i)) else some (.ret, s9 m a b i))
theorem b9 (m : Bool) (a b : List ItemR) (n i : Nat) : evD (t9 n) noTL (atL 10 LSK noL) 1 (loopAt 8 0) [0, 1, 2, 6, 7] [8, 9] (s9 m a b i) =
    lt_ i a.length (ix_ i a.length (ix_ i b.length (in9 m n a b i (a.getD i default) (b.getD i default)))) (some (.exit 0, s9 m a b i)) := by kernel_rfl

theorem in9_eq {m : Bool} {n : Nat} {a b : List ItemR} {i : Nat} {x y : ItemR} (h1 : Nat.ble x.labels.length big = true) (h2 : isz x < n + 1) (h3 : i < big) :
    in9 m n a b i x y = bif sameI m x y then some (.normal, s9 m a b ((i + 1 : Nat) : Int)) else some (.ret, s9 m a b i) := by
  have hz := isz_eq x
  unfold in9 n9
  rw [sameI_eq, etaE_eq, etaE_eq, wrap_nat (by omega), ck_t (blt_t (by omega : iszs x.items < n))]
  unfold iHd
  by_cases hl : x.labels.length = y.labels.length
  · rw [show ((x.labels.length : Int) != (y.labels.length : Int)) = false by rw [hl]; simp, ck_t (by rw [h1, hl, Nat.beq_refl]; rfl), all_beq [] _ _ hl]
    cases x.block == y.block <;> cases x.name == y.name <;> cases x.labels == y.labels <;> cases m <;> cases posEq x.p y.p <;> cases sameEm _ x.e y.e <;> cases sameIs _ x.items y.items <;> rfl
  · rw [show ((x.labels.length : Int) != (y.labels.length : Int)) = true by rw [bne_iff_ne]; omega, show (x.labels == y.labels) = false by rw [beq_eq_false_iff_ne]; intro e; exact hl (by rw [e])]
    cases x.block == y.block <;> cases x.name == y.name <;> rfl

def LS9 (n : Nat) (S : St Pl) : Option (Bool × LR Pl) := match seenS 95 [0, 1, 2, 6, 7] S with
  | some ([.pl ⟨.items, a⟩ .any, .pl ⟨.items, b⟩ .any, .bool m, .bool false, .int .i64 (.ofNat 0)], []) =>
    some (Nat.beq a.length b.length && (Nat.ble a.length big && (Nat.blt (iszs a) n && a.all fun x => Nat.ble x.labels.length big)), .ite (allI m a b) (.leaf (.exit 0) (mkS 95 [(6, .bool false)] [])) (.leaf .ret (mkS 95 [(6, .bool false)] [])))
  | _ => none
theorem LS9_ok {n : Nat} (hT : TOk (t9 n)) : SOk X0 (loopAt 8 0) (LS9 (n + 1)) := by
  intro S c r h hc
  unfold LS9 at h
  split at h
  · rename_i a b m hs
    simp only [Option.some.injEq, Prod.mk.injEq] at h
    obtain ⟨rfl, rfl⟩ := h
    simp only [Bool.and_eq_true, Nat.ble_eq, Nat.blt_eq] at hc
    obtain ⟨hl, hb, hz, hlab⟩ := hc
    have hl := Nat.eq_of_beq_eq_true hl
    refine Goes.pre (keepOf [0, 1, 2, 6, 7]) ?_
    rw [seenS_mask hs]
    have hL : ∀ c ∈ loopsOf (loopAt 8 0), LoopOk X0 (atL 10 LSK noL) c := by
      rw [ids9.2.2.2.2]
      intro c hc
      rw [List.mem_singleton] at hc
      subst hc
      exact atL_ok (fun _ => LSK_ok) fun h => absurd ids9.2.2.1 h
    have hstep : ∀ i : Nat, i < a.length → evD (t9 n) noTL (atL 10 LSK noL) 1 (loopAt 8 0) [0, 1, 2, 6, 7] [8, 9] (s9 m a b i) = bif sameI m (a.getD i default) (b.getD i default) then some (.normal, s9 m a b ((i + 1 : Nat) : Int)) else some (.ret, s9 m a b i) := by
      intro i hi
      have hm : a.getD i default ∈ a := getD_mem hi
      have := iszs_mem hm
      rw [b9, lt_t hi, ix_t hi, ix_t (by omega), in9_eq ((List.all_eq_true.1 hlab) _ hm) (by omega) (by omega)]
    unfold allI
    refine loop_search (Sf := fun i => s9 m a b i) (n := a.length) (p := fun i => sameI m (a.getD i default) (b.getD i default)) (by simp) (by simp) (fun i hi hp => ?_) (fun i hi hp => ?_) ?_
    · have hp : sameI m (a.getD i default) (b.getD i default) = true := hp
      exact goes_ofD hT (noTL_ok _ _) hL ((hstep i hi).trans (by rw [hp]; rfl))
    · have hp : sameI m (a.getD i default) (b.getD i default) = false := hp
      exact (goes_ofD hT (noTL_ok _ _) hL ((hstep i hi).trans (show _ = some (.ret, s9 m a b i) by rw [hp]; rfl))).post (keepOf [6])
    · exact (goes_ofD hT (noTL_ok _ _) hL ((b9 m a b n a.length).trans (show _ = some (.exit 0, s9 m a b a.length) by rw [lt_f (by omega)]))).post (keepOf [6])
  · simp at h

theorem e9s (m : Bool) (a b : List ItemR) (n : Nat) : evF (t9 n) noTL (atL 4 (LS9 (n + 1)) (atL 10 LSK noL)) 1 Tryz.f8 [.pl (pItems a) .any, .pl (pItems b) .any, .bool m] =
    bif ((a.length : Int) != (b.length : Int)) then some (.bool false) else ck_ (Nat.beq a.length b.length && (Nat.ble a.length big && (Nat.blt (iszs a) (n + 1) && a.all fun x => Nat.ble x.labels.length big))) (bif allI m a b then some (.bool true) else some (.bool false)) := by kernel_rfl

theorem risame_n : ∀ n m a b, iszs a < n → Snd 8 [.pl (pItems a) .any, .pl (pItems b) .any, .bool m] (.bool (sameIs m a b)) := by
  intro n
  induction n with
  | zero => intro m a b h; omega
  | succ n ih =>
    intro m a b hlt
    have hT : TOk (t9 n) := tell_ok (pe2b_ok fun a b m _ => rsame_sound m a b) (tell_ok (pl2b_ok fun a b m h => ih m a b (by simp only [Nat.blt_eq] at h; exact h)) (tell0_ok _))
    refine SoundAt.rooms fun hroom => roomsIn fun hin => snd_fn (n := 1) hT (noTL_ok _ _) (fn := Tryz.f8) (by kernel_rfl) (loops_of (f := 8) (fn := Tryz.f8) (by kernel_rfl)
      (loops_2 ids9.1 (atL_ok (fun _ => LS9_ok hT) fun h => absurd ids9.2.1 h) (atL_ok (fun h => absurd (ids9.2.2.1.symm.trans h) (by decide)) fun _ => atL_ok (fun _ => LSK_ok) fun h => absurd ids9.2.2.1 h))) ((e9s m a b n).trans ?_)
    have ha : a.length * 288 ≤ big := hroom (.pl (pItems a) .any) (by simp)
    have hlab := items_room rfl (hin (.pl (pItems a) .any) (by simp))
    by_cases hl : a.length = b.length
    · rw [show ((a.length : Int) != (b.length : Int)) = false by rw [hl]; simp, ck_t (by rw [hlab, hl, Nat.beq_refl, ble_t (by omega), blt_t (by omega)]; rfl), allI_eq _ _ _ hl]
      cases sameIs m a b <;> rfl
    · have : sameIs m a b = false := by
        cases hs : sameIs m a b with
        | false => rfl
        | true => exact absurd (sameIs_len m hs) hl
      rw [this, show ((a.length : Int) != (b.length : Int)) = true by rw [bne_iff_ne]; omega]
      rfl
theorem risame_sound (m : Bool) (a b : List ItemR) : Snd 8 [.pl (pItems a) .any, .pl (pItems b) .any, .bool m] (.bool (sameIs m a b)) := risame_n _ m a b (Nat.lt_succ_self _)
end Go.Proofs.YtjmlnjjinhmanaaGreatDoor

/-
  HOW DEEP ITEMS ARE: the program's and the document's Depth come to one number.
-/

namespace Go.Proofs.YtjmlnjjinhmanaaGreatDoor
open Go.Eng

set_option maxRecDepth 100000

def accI (D : List ItemR → Int) (l : List ItemR) : Nat → Int
  | 0 => 0
  | i + 1 => bif (l.getD i default).block then mx (IntKind.i64.wrap (1 + D (l.getD i default).items)) (accI D l i) else accI D l i
def dpI : Nat → List ItemR → Int
  | 0, _ => 0
  | n + 1, l => accI (dpI n) l l.length
def tDI (f n : Nat) : Eng.Told Pl := tell f (pl1 fun a => (Nat.blt (iszs a) n, dI (dpI n a))) tell0

theorem items_lt {l : List ItemR} {n i : Nat} (h : iszs l < n + 1) (hi : i < l.length) : iszs (l.getD i default).items < n := by
  have h1 := iszs_mem (getD_mem (d := default) hi)
  have h2 := isz_eq (l.getD i default)
  omega

-- the program's

def sD (l : List ItemR) (x i : Int) : St Pl := mkS 22 [(3, dI x), (6, .pl (pItems l) .any), (7, dI l.length), (8, dI i)] []
theorem bD (l : List ItemR) (n : Nat) (x : Int) (i : Nat) : evD (tDI 11 n) noTL noL 1 (loopAt 11 0) [3, 6, 7, 8] [5] (sD l x i) =
    lt_ i l.length (ix_ i l.length (bif (l.getD i default).block then ck_ (Nat.blt (iszs (l.getD i default).items) n) (some (.normal, sD l (mx (IntKind.i64.wrap (1 + dpI n (l.getD i default).items)) x) (IntKind.i64.wrap ((i : Int) + 1)))) else some (.normal, sD l x (IntKind.i64.wrap ((i : Int) + 1))))) (some (.exit 0, sD l x i)) := by kernel_rfl
theorem idsD : (loopsAt 11).length = 1 ∧ firstId (loopAt 11 0) = 3 ∧ loopsOf (loopAt 11 0) = [] := ⟨by kernel_rfl, by kernel_rfl, by kernel_rfl⟩
def LSD (n : Nat) (S : St Pl) : Option (Bool × LR Pl) := match seenS 22 [3, 6, 7, 8] S with
  | some ([.int .i64 (.ofNat 0), .pl ⟨.items, l⟩ .any, .int .i64 k, .int .i64 (.ofNat 0)], []) => some (k == (l.length : Int) && (Nat.ble l.length big && Nat.blt (iszs l) (n + 1)), .leaf (.exit 0) (mkS 22 [(3, dI (accI (dpI n) l l.length))] []))
  | _ => none
theorem LSD_ok {n : Nat} (hT : TOk (tDI 11 n)) : SOk X0 (loopAt 11 0) (LSD n) := by
  intro S c r h hc
  unfold LSD at h
  split at h
  · rename_i l k hs
    simp only [Option.some.injEq, Prod.mk.injEq] at h
    obtain ⟨rfl, rfl⟩ := h
    simp only [Bool.and_eq_true, Nat.ble_eq, Nat.blt_eq, beq_iff_eq] at hc
    obtain ⟨rfl, hb, hsz⟩ := hc
    refine Goes.pre (keepOf [3, 6, 7, 8]) ?_
    rw [seenS_mask hs]
    refine all_ofD hT (k := 1) (L := noL) (noLoops idsD.2.2) (keep := [3, 6, 7, 8]) (lose := [5]) (keep2 := [3]) (Sf := fun i => sD l (accI (dpI n) l i) i) (n := l.length) (by simp) (fun i hi => ?_) ?_ rfl
    · show evD (tDI 11 n) noTL noL 1 (loopAt 11 0) [3, 6, 7, 8] [5] (sD l (accI (dpI n) l i) i) = _
      rw [bD, lt_t hi, ix_t hi, wrap_nat (by omega), ck_t (blt_t (items_lt hsz hi))]
      simp only [accI]
      cases (l.getD i default).block <;> rfl
    · show evD (tDI 11 n) noTL noL 1 (loopAt 11 0) [3, 6, 7, 8] [5] (sD l (accI (dpI n) l l.length) l.length) = _
      rw [bD, lt_f (by omega)]
  · simp at h
theorem eD (l : List ItemR) (n : Nat) : evF (tDI 11 n) noTL (atL 3 (LSD n) noL) 1 Tryz.f11 [.pl (pItems l) .any] =
    ck_ (((l.length : Int) == (l.length : Int)) && (Nat.ble l.length big && Nat.blt (iszs l) (n + 1))) (some (dI (accI (dpI n) l l.length))) := by kernel_rfl
theorem idepth_n : ∀ n l, iszs l < n → Snd 11 [.pl (pItems l) .any] (dI (dpI n l)) := by
  intro n
  induction n with
  | zero => intro l h; omega
  | succ n ih =>
    intro l hlt
    have hT : TOk (tDI 11 n) := tell_ok (pl1_ok fun a h => ih a (by simp only [Nat.blt_eq] at h; exact h)) (tell0_ok _)
    refine SoundAt.rooms fun hroom => snd_fn (n := 1) hT (noTL_ok _ _) (fn := Tryz.f11) (by kernel_rfl) (loops_of (f := 11) (fn := Tryz.f11) (by kernel_rfl) (loops_1 idsD.1 (atL_ok (fun _ => LSD_ok hT) fun h => absurd idsD.2.1 h))) ((eD l n).trans ?_)
    have hk : l.length * 288 ≤ big := hroom (.pl (pItems l) .any) (by simp)
    rw [ck_t (by rw [beq_self_eq_true, ble_t (by omega), blt_t hlt]; rfl)]
    rfl

-- the document's

def sR (l : List ItemR) (x i : Int) : St Pl := mkS 26 [(0, .pl (pItems l) .any), (3, dI x), (4, dI i)] []
theorem bR (l : List ItemR) (n : Nat) (x : Int) (i : Nat) : evD (tDI 12 n) noTL noL 1 (loopAt 12 0) [0, 3, 4] [] (sR l x i) =
    lt_ i l.length (ix_ i l.length (bif (l.getD i default).block then ix_ i l.length (ck_ (Nat.blt (iszs (l.getD i default).items) n) (some (.normal, sR l (mx (IntKind.i64.wrap (1 + dpI n (l.getD i default).items)) x) (IntKind.i64.wrap ((i : Int) + 1))))) else some (.normal, sR l x (IntKind.i64.wrap ((i : Int) + 1))))) (some (.exit 0, sR l x i)) := by kernel_rfl
theorem idsR : (loopsAt 12).length = 1 ∧ firstId (loopAt 12 0) = 3 ∧ loopsOf (loopAt 12 0) = [] := ⟨by kernel_rfl, by kernel_rfl, by kernel_rfl⟩
def LSR (n : Nat) (S : St Pl) : Option (Bool × LR Pl) := match seenS 26 [0, 3, 4] S with
  | some ([.pl ⟨.items, l⟩ .any, .int .i64 (.ofNat 0), .int .i64 (.ofNat 0)], []) => some (Nat.ble l.length big && Nat.blt (iszs l) (n + 1), .leaf (.exit 0) (mkS 26 [(3, dI (accI (dpI n) l l.length))] []))
  | _ => none
theorem LSR_ok {n : Nat} (hT : TOk (tDI 12 n)) : SOk X0 (loopAt 12 0) (LSR n) := by
  intro S c r h hc
  unfold LSR at h
  split at h
  · rename_i l hs
    simp only [Option.some.injEq, Prod.mk.injEq] at h
    obtain ⟨rfl, rfl⟩ := h
    simp only [Bool.and_eq_true, Nat.ble_eq, Nat.blt_eq] at hc
    obtain ⟨hb, hsz⟩ := hc
    refine Goes.pre (keepOf [0, 3, 4]) ?_
    rw [seenS_mask hs]
    refine all_ofD hT (k := 1) (L := noL) (noLoops idsR.2.2) (keep := [0, 3, 4]) (lose := []) (keep2 := [3]) (Sf := fun i => sR l (accI (dpI n) l i) i) (n := l.length) (by simp) (fun i hi => ?_) ?_ rfl
    · show evD (tDI 12 n) noTL noL 1 (loopAt 12 0) [0, 3, 4] [] (sR l (accI (dpI n) l i) i) = _
      rw [bR, lt_t hi, ix_t hi, ix_t hi, wrap_nat (by omega), ck_t (blt_t (items_lt hsz hi))]
      simp only [accI]
      cases (l.getD i default).block <;> rfl
    · show evD (tDI 12 n) noTL noL 1 (loopAt 12 0) [0, 3, 4] [] (sR l (accI (dpI n) l l.length) l.length) = _
      rw [bR, lt_f (by omega)]
  · simp at h
theorem eR (l : List ItemR) (n : Nat) : evF (tDI 12 n) noTL (atL 3 (LSR n) noL) 1 Tryz.f12 [.pl (pItems l) .any] =
    ck_ (Nat.ble l.length big && Nat.blt (iszs l) (n + 1)) (some (dI (accI (dpI n) l l.length))) := by kernel_rfl
theorem irdepth_n : ∀ n l, iszs l < n → Snd 12 [.pl (pItems l) .any] (dI (dpI n l)) := by
  intro n
  induction n with
  | zero => intro l h; omega
  | succ n ih =>
    intro l hlt
    have hT : TOk (tDI 12 n) := tell_ok (pl1_ok fun a h => ih a (by simp only [Nat.blt_eq] at h; exact h)) (tell0_ok _)
    refine SoundAt.rooms fun hroom => snd_fn (n := 1) hT (noTL_ok _ _) (fn := Tryz.f12) (by kernel_rfl) (loops_of (f := 12) (fn := Tryz.f12) (by kernel_rfl) (loops_1 idsR.1 (atL_ok (fun _ => LSR_ok hT) fun h => absurd idsR.2.1 h))) ((eR l n).trans ?_)
    have hk : l.length * 288 ≤ big := hroom (.pl (pItems l) .any) (by simp)
    rw [ck_t (by rw [ble_t (by omega), blt_t hlt]; rfl)]
    rfl
def deepI (l : List ItemR) : Int := dpI (iszs l + 1) l
theorem idepth_sound (l : List ItemR) : Snd 11 [.pl (pItems l) .any] (dI (deepI l)) := idepth_n _ l (Nat.lt_succ_self _)
theorem irdepth_sound (l : List ItemR) : Snd 12 [.pl (pItems l) .any] (dI (deepI l)) := irdepth_n _ l (Nat.lt_succ_self _)
end Go.Proofs.YtjmlnjjinhmanaaGreatDoor

/-
  THE ITEMS THAT ARE ASKED FOR: conf.those, Attr, Blocks.
-/

namespace Go.Proofs.YtjmlnjjinhmanaaGreatDoor
open Go.Eng

set_option maxRecDepth 100000

def gfI (p : ItemR → Bool) (l : List ItemR) (i : Nat) : Option ItemR := bif p (l.getD i default) then some (etaI (l.getD i default)) else none
def flI (p : ItemR → Bool) (l : List ItemR) : List ItemR := (List.range l.length).filterMap (gfI p l)
theorem flI_eq (p : ItemR → Bool) (l : List ItemR) : flI p l = l.filter p := by
  unfold flI
  induction l with
  | nil => rfl
  | cons x r ih =>
    rw [List.length_cons, List.range_succ_eq_map, List.filterMap_cons, List.filterMap_map]
    have h : (List.range r.length).filterMap (gfI p (x :: r) ∘ Nat.succ) = (List.range r.length).filterMap (gfI p r) := rfl
    rw [h, ih]
    have h0 : gfI p (x :: r) 0 = bif p x then some x else none := by unfold gfI; rw [List.getD_cons_zero, etaI_eq]
    rw [h0, List.filter_cons]
    cases p x <;> rfl
theorem idsT : (loopsAt 26).length = 1 ∧ firstId (loopAt 26 0) = 3 ∧ loopsOf (loopAt 26 0) = [] := ⟨by kernel_rfl, by kernel_rfl, by kernel_rfl⟩

-- the attributes of a name

def pA (n : Str) (x : ItemR) : Bool := bif !x.block then x.name == n else false
def sA0 (l : List ItemR) (n : Str) (i : Int) : St Pl := mkS 23 [(1, .fn 27 [.ref [.str n]]), (5, .nilS), (8, .pl (pItems l) .any), (9, dI l.length), (10, dI i)] []
def sA1 (l o : List ItemR) (n : Str) (i : Int) : St Pl := mkS 23 [(1, .fn 27 [.ref [.str n]]), (5, .arr 20), (8, .pl (pItems l) .any), (9, dI l.length), (10, dI i)] [(20, .arr false (pItems o))]
theorem bA0 (l : List ItemR) (n : Str) (i : Nat) : evD tell0 noTL noL 1 (loopAt 26 0) [1, 5, 8, 9, 10] [6, 7] (sA0 l n i) =
    lt_ i l.length (ix_ i l.length (bif pA n (l.getD i default) then some (.normal, sA1 l [etaI (l.getD i default)] n (IntKind.i64.wrap ((i : Int) + 1))) else some (.normal, sA0 l n (IntKind.i64.wrap ((i : Int) + 1))))) (some (.exit 0, sA0 l n i)) := by kernel_rfl
theorem bA1 (l o : List ItemR) (n : Str) (i : Nat) : evD tell0 noTL noL 1 (loopAt 26 0) [1, 5, 8, 9, 10] [6, 7] (sA1 l o n i) =
    lt_ i l.length (ix_ i l.length (bif pA n (l.getD i default) then ck_ (true && Nat.ble ((o.length + 1) * 288) big) (some (.normal, sA1 l (o ++ [etaI (l.getD i default)]) n (IntKind.i64.wrap ((i : Int) + 1)))) else some (.normal, sA1 l o n (IntKind.i64.wrap ((i : Int) + 1))))) (some (.exit 0, sA1 l o n i)) := by kernel_rfl
def LSTA (S : St Pl) : Option (Bool × LR Pl) := match seenS 23 [1, 5, 8, 9, 10] S with
  | some ([.fn 27 [.ref [.str n]], .nilS, .pl ⟨.items, l⟩ .any, .int .i64 k, .int .i64 (.ofNat 0)], []) =>
    some (k == (l.length : Int) && Nat.ble (l.length * 288) big, .ite (flI (pA n) l).isEmpty (.leaf (.exit 0) (mkS 23 [(5, .nilS)] [])) (.leaf (.exit 0) (mkS 23 [(5, .arr 20)] [(20, .arr false (pItems (flI (pA n) l)))])))
  | _ => none
theorem LSTA_ok : SOk X0 (loopAt 26 0) LSTA := by
  intro S c r h hc
  unfold LSTA at h
  split at h
  · rename_i n l k hs
    simp only [Option.some.injEq, Prod.mk.injEq] at h
    obtain ⟨rfl, rfl⟩ := h
    simp only [Bool.and_eq_true, Nat.ble_eq, beq_iff_eq] at hc
    obtain ⟨rfl, hb⟩ := hc
    refine Goes.pre (keepOf [1, 5, 8, 9, 10]) ?_
    rw [seenS_mask hs]
    refine loop_filter (n := l.length) (e := .exit 0) (F0 := fun i => sA0 l n i) (F1 := fun o i => sA1 l o n i) (g := gfI (pA n) l) (E1 := fun o => mkS 23 [(5, .arr 20)] [(20, .arr false (pItems o))]) (by simp) (fun i hi => ?_) (fun i o hi ho => ?_) ?_ (fun o => ?_)
    · have h0 : GoesTo (loopAt 26 0) (sA0 l n i) .normal (bif pA n (l.getD i default) then sA1 l [etaI (l.getD i default)] n ((i + 1 : Nat) : Int) else sA0 l n ((i + 1 : Nat) : Int)) := by
        refine goes_ofD (tell0_ok _) (noTL_ok _ _) (noLoops idsT.2.2) ((bA0 l n i).trans ?_)
        rw [lt_t hi, ix_t hi, wrap_nat (by omega)]
        cases pA n (l.getD i default) <;> rfl
      unfold gfI
      cases hp : pA n (l.getD i default) <;> rw [hp] at h0 <;> exact h0
    · have h0 : GoesTo (loopAt 26 0) (sA1 l o n i) .normal (bif pA n (l.getD i default) then sA1 l (o ++ [etaI (l.getD i default)]) n ((i + 1 : Nat) : Int) else sA1 l o n ((i + 1 : Nat) : Int)) := by
        refine goes_ofD (tell0_ok _) (noTL_ok _ _) (noLoops idsT.2.2) ((bA1 l o n i).trans ?_)
        rw [lt_t hi, ix_t hi, wrap_nat (by omega), ck_t (by rw [ble_t (by omega)]; rfl)]
        cases pA n (l.getD i default) <;> rfl
      unfold gfI
      cases hp : pA n (l.getD i default) <;> rw [hp] at h0 <;> exact h0
    · exact (goes_ofD (tell0_ok _) (noTL_ok _ _) (noLoops idsT.2.2) ((bA0 l n l.length).trans (show _ = some (.exit 0, sA0 l n l.length) by rw [lt_f (by omega)]))).post (keepOf [5])
    · exact (goes_ofD (tell0_ok _) (noTL_ok _ _) (noLoops idsT.2.2) ((bA1 l o n l.length).trans (show _ = some (.exit 0, sA1 l o n l.length) by rw [lt_f (by omega)]))).post (keepOf [5])
  · simp at h
theorem eA (l : List ItemR) (n : Str) : evF tell0 noTL (atL 3 LSTA noL) 1 Tryz.f26 [.pl (pItems l) .any, .fn 27 [.ref [.str n]]] =
    ck_ (((l.length : Int) == (l.length : Int)) && Nat.ble (l.length * 288) big) (bif (flI (pA n) l).isEmpty then some .nilS else some (.pl (pItems (flI (pA n) l)) .any)) := by kernel_rfl
theorem thoseA_sound (l : List ItemR) (n : Str) : Snd 26 [.pl (pItems l) .any, .fn 27 [.ref [.str n]]] (.pl (pItems (l.filter (pA n))) .any) := by
  refine SoundAt.rooms fun hroom => ?_
  have ha : l.length * 288 ≤ big := hroom (.pl (pItems l) .any) (by simp)
  have key := fun d (h : evF tell0 noTL (atL 3 LSTA noL) 1 Tryz.f26 [.pl (pItems l) .any, .fn 27 [.ref [.str n]]] = some d) =>
    snd_fn (n := 1) (tell0_ok _) (noTL_ok _ _) (f := 26) (fn := Tryz.f26) (by kernel_rfl) (loops_of (f := 26) (fn := Tryz.f26) (by kernel_rfl) (loops_1 idsT.1 (atL_ok (fun _ => LSTA_ok) fun h => absurd idsT.2.1 h))) h
  rw [← flI_eq]
  cases hl : (flI (pA n) l).isEmpty with
  | true =>
    have h1 := key .nilS ((eA l n).trans (by rw [ck_t (by rw [beq_self_eq_true, ble_t ha]; rfl), hl]; rfl))
    rw [List.isEmpty_iff.1 hl]
    exact h1.post (RDle.of (.nil _ rfl))
  | false => exact key _ ((eA l n).trans (by rw [ck_t (by rw [beq_self_eq_true, ble_t ha]; rfl), hl]; rfl))
def pThA : List (D Pl) → Option (Bool × D Pl)
  | [d, .fn 27 [.ref [.str n]]] => match asI d with
    | some l => some (true, .pl (pItems (l.filter (pA n))) .any)
    | none => none
  | _ => none
theorem pThA_ok : ∀ ds b d, pThA ds = some (b, d) → b = true → Snd 26 ds d := by
  intro ds b d h hb
  unfold pThA at h
  split at h
  · split at h
    · rename_i h1
      simp only [Option.some.injEq, Prod.mk.injEq] at h
      obtain ⟨_, rfl⟩ := h
      exact (thoseA_sound _ _).pre (.cons (asI_rdle h1) (.cons (RDle.refl _) .nil))
    · simp at h
  · simp at h

-- the blocks of a name

def pB (n : Str) (x : ItemR) : Bool := bif x.block then x.name == n else false
def sB0 (l : List ItemR) (n : Str) (i : Int) : St Pl := mkS 23 [(1, .fn 28 [.ref [.str n]]), (5, .nilS), (8, .pl (pItems l) .any), (9, dI l.length), (10, dI i)] []
def sB1 (l o : List ItemR) (n : Str) (i : Int) : St Pl := mkS 23 [(1, .fn 28 [.ref [.str n]]), (5, .arr 20), (8, .pl (pItems l) .any), (9, dI l.length), (10, dI i)] [(20, .arr false (pItems o))]
theorem bB0 (l : List ItemR) (n : Str) (i : Nat) : evD tell0 noTL noL 1 (loopAt 26 0) [1, 5, 8, 9, 10] [6, 7] (sB0 l n i) =
    lt_ i l.length (ix_ i l.length (bif pB n (l.getD i default) then some (.normal, sB1 l [etaI (l.getD i default)] n (IntKind.i64.wrap ((i : Int) + 1))) else some (.normal, sB0 l n (IntKind.i64.wrap ((i : Int) + 1))))) (some (.exit 0, sB0 l n i)) := by kernel_rfl
theorem bB1 (l o : List ItemR) (n : Str) (i : Nat) : evD tell0 noTL noL 1 (loopAt 26 0) [1, 5, 8, 9, 10] [6, 7] (sB1 l o n i) =
    lt_ i l.length (ix_ i l.length (bif pB n (l.getD i default) then ck_ (true && Nat.ble ((o.length + 1) * 288) big) (some (.normal, sB1 l (o ++ [etaI (l.getD i default)]) n (IntKind.i64.wrap ((i : Int) + 1)))) else some (.normal, sB1 l o n (IntKind.i64.wrap ((i : Int) + 1))))) (some (.exit 0, sB1 l o n i)) := by kernel_rfl
def LSTB (S : St Pl) : Option (Bool × LR Pl) := match seenS 23 [1, 5, 8, 9, 10] S with
  | some ([.fn 28 [.ref [.str n]], .nilS, .pl ⟨.items, l⟩ .any, .int .i64 k, .int .i64 (.ofNat 0)], []) =>
    some (k == (l.length : Int) && Nat.ble (l.length * 288) big, .ite (flI (pB n) l).isEmpty (.leaf (.exit 0) (mkS 23 [(5, .nilS)] [])) (.leaf (.exit 0) (mkS 23 [(5, .arr 20)] [(20, .arr false (pItems (flI (pB n) l)))])))
  | _ => none
theorem LSTB_ok : SOk X0 (loopAt 26 0) LSTB := by
  intro S c r h hc
  unfold LSTB at h
  split at h
  · rename_i n l k hs
    simp only [Option.some.injEq, Prod.mk.injEq] at h
    obtain ⟨rfl, rfl⟩ := h
    simp only [Bool.and_eq_true, Nat.ble_eq, beq_iff_eq] at hc
    obtain ⟨rfl, hb⟩ := hc
    refine Goes.pre (keepOf [1, 5, 8, 9, 10]) ?_
    rw [seenS_mask hs]
    refine loop_filter (n := l.length) (e := .exit 0) (F0 := fun i => sB0 l n i) (F1 := fun o i => sB1 l o n i) (g := gfI (pB n) l) (E1 := fun o => mkS 23 [(5, .arr 20)] [(20, .arr false (pItems o))]) (by simp) (fun i hi => ?_) (fun i o hi ho => ?_) ?_ (fun o => ?_)
    · have h0 : GoesTo (loopAt 26 0) (sB0 l n i) .normal (bif pB n (l.getD i default) then sB1 l [etaI (l.getD i default)] n ((i + 1 : Nat) : Int) else sB0 l n ((i + 1 : Nat) : Int)) := by
        refine goes_ofD (tell0_ok _) (noTL_ok _ _) (noLoops idsT.2.2) ((bB0 l n i).trans ?_)
        rw [lt_t hi, ix_t hi, wrap_nat (by omega)]
        cases pB n (l.getD i default) <;> rfl
      unfold gfI
      cases hp : pB n (l.getD i default) <;> rw [hp] at h0 <;> exact h0
    · have h0 : GoesTo (loopAt 26 0) (sB1 l o n i) .normal (bif pB n (l.getD i default) then sB1 l (o ++ [etaI (l.getD i default)]) n ((i + 1 : Nat) : Int) else sB1 l o n ((i + 1 : Nat) : Int)) := by
        refine goes_ofD (tell0_ok _) (noTL_ok _ _) (noLoops idsT.2.2) ((bB1 l o n i).trans ?_)
        rw [lt_t hi, ix_t hi, wrap_nat (by omega), ck_t (by rw [ble_t (by omega)]; rfl)]
        cases pB n (l.getD i default) <;> rfl
      unfold gfI
      cases hp : pB n (l.getD i default) <;> rw [hp] at h0 <;> exact h0
    · exact (goes_ofD (tell0_ok _) (noTL_ok _ _) (noLoops idsT.2.2) ((bB0 l n l.length).trans (show _ = some (.exit 0, sB0 l n l.length) by rw [lt_f (by omega)]))).post (keepOf [5])
    · exact (goes_ofD (tell0_ok _) (noTL_ok _ _) (noLoops idsT.2.2) ((bB1 l o n l.length).trans (show _ = some (.exit 0, sB1 l o n l.length) by rw [lt_f (by omega)]))).post (keepOf [5])
  · simp at h
theorem eB (l : List ItemR) (n : Str) : evF tell0 noTL (atL 3 LSTB noL) 1 Tryz.f26 [.pl (pItems l) .any, .fn 28 [.ref [.str n]]] =
    ck_ (((l.length : Int) == (l.length : Int)) && Nat.ble (l.length * 288) big) (bif (flI (pB n) l).isEmpty then some .nilS else some (.pl (pItems (flI (pB n) l)) .any)) := by kernel_rfl
theorem thoseB_sound (l : List ItemR) (n : Str) : Snd 26 [.pl (pItems l) .any, .fn 28 [.ref [.str n]]] (.pl (pItems (l.filter (pB n))) .any) := by
  refine SoundAt.rooms fun hroom => ?_
  have ha : l.length * 288 ≤ big := hroom (.pl (pItems l) .any) (by simp)
  have key := fun d (h : evF tell0 noTL (atL 3 LSTB noL) 1 Tryz.f26 [.pl (pItems l) .any, .fn 28 [.ref [.str n]]] = some d) =>
    snd_fn (n := 1) (tell0_ok _) (noTL_ok _ _) (f := 26) (fn := Tryz.f26) (by kernel_rfl) (loops_of (f := 26) (fn := Tryz.f26) (by kernel_rfl) (loops_1 idsT.1 (atL_ok (fun _ => LSTB_ok) fun h => absurd idsT.2.1 h))) h
  rw [← flI_eq]
  cases hl : (flI (pB n) l).isEmpty with
  | true =>
    have h1 := key .nilS ((eB l n).trans (by rw [ck_t (by rw [beq_self_eq_true, ble_t ha]; rfl), hl]; rfl))
    rw [List.isEmpty_iff.1 hl]
    exact h1.post (RDle.of (.nil _ rfl))
  | false => exact key _ ((eB l n).trans (by rw [ck_t (by rw [beq_self_eq_true, ble_t ha]; rfl), hl]; rfl))
def pThB : List (D Pl) → Option (Bool × D Pl)
  | [d, .fn 28 [.ref [.str n]]] => match asI d with
    | some l => some (true, .pl (pItems (l.filter (pB n))) .any)
    | none => none
  | _ => none
theorem pThB_ok : ∀ ds b d, pThB ds = some (b, d) → b = true → Snd 26 ds d := by
  intro ds b d h hb
  unfold pThB at h
  split at h
  · split at h
    · rename_i h1
      simp only [Option.some.injEq, Prod.mk.injEq] at h
      obtain ⟨_, rfl⟩ := h
      exact (thoseB_sound _ _).pre (.cons (asI_rdle h1) (.cons (RDle.refl _) .nil))
    · simp at h
  · simp at h

def zI : ItemR := ⟨false, [], [], ⟨0, [], [], ⟨0, 0, [], [], [], 0, 0, false⟩, [], ⟨0, 0, 0⟩⟩, [], ⟨0, 0, 0⟩⟩
def zC : List (D Pl) := [.bool false, .str [], .nilS, dI 0, .str [], .str [], dI 0, dI 0, .str [], .nilS, .nilS, dI 0, dI 0, .bool false, .nilS, dI 0, dI 0, dI 0, .nilS, dI 0, dI 0, dI 0]
theorem zC_le : RDles X0.C zC (cItem zI) :=
  .cons (RDle.refl _) (.cons (RDle.refl _) (.cons (RDle.of (.nil _ rfl)) (.cons (RDle.refl _) (.cons (RDle.refl _) (.cons (RDle.refl _) (.cons (RDle.refl _) (.cons (RDle.refl _) (.cons (RDle.refl _) (.cons (RDle.of (.nil _ rfl)) (.cons (RDle.of (.nil _ rfl))
    (.cons (RDle.refl _) (.cons (RDle.refl _) (.cons (RDle.refl _) (.cons (RDle.of (.nil _ rfl)) (.cons (RDle.refl _) (.cons (RDle.refl _) (.cons (RDle.refl _) (.cons (RDle.of (.nil _ rfl)) (.cons (RDle.refl _) (.cons (RDle.refl _) (.cons (RDle.refl _) .nil)))))))))))))))))))))

theorem eAt (l r : List ItemR) (n : Str) (h : l.filter (pA n) = r) : evF (tell 26 pThA tell0) noTL noL 1 Tryz.f13 [.pl (pItems l) .any, .str n] =
    bif ((r.length : Int) == 0) then some (.tup [.agg zC, .bool false]) else ix_ 0 r.length (some (.tup [.agg (cItem (r.getD 0 default)), .bool true])) := by subst h; kernel_rfl
theorem attr_sound (l : List ItemR) (n : Str) : Snd 13 [.pl (pItems l) .any, .str n] (.tup [.agg (cItem ((l.filter (pA n)).getD 0 zI)), .bool (!(l.filter (pA n)).isEmpty)]) := by
  have key := fun d (h : evF (tell 26 pThA tell0) noTL noL 1 Tryz.f13 [.pl (pItems l) .any, .str n] = some d) =>
    snd_fn (n := 1) (tell_ok pThA_ok (tell0_ok _)) (noTL_ok _ _) (f := 13) (fn := Tryz.f13) (by kernel_rfl) (loops_of (f := 13) (fn := Tryz.f13) (by kernel_rfl) (loops_0 (by kernel_rfl))) h
  cases hr : l.filter (pA n) with
  | nil =>
    have h1 := key _ ((eAt l [] n hr).trans rfl)
    exact h1.post (RDle.tup (.cons (RDle.agg zC_le) (.cons (RDle.refl _) .nil)))
  | cons x r =>
    have h1 := key (.tup [.agg (cItem x), .bool true]) ((eAt l (x :: r) n hr).trans (by rw [show (((x :: r).length : Int) == 0) = false by rw [beq_eq_false_iff_ne]; simp; omega, ix_t (by simp)]; rfl))
    exact h1
theorem eBl (l : List ItemR) (n : Str) : evF (tell 26 pThB tell0) noTL noL 1 Tryz.f14 [.pl (pItems l) .any, .str n] = some (.pl (pItems (l.filter (pB n))) .any) := by kernel_rfl
theorem blocks_sound (l : List ItemR) (n : Str) : Snd 14 [.pl (pItems l) .any, .str n] (.pl (pItems (l.filter (pB n))) .any) :=
  snd_fn (n := 1) (tell_ok pThB_ok (tell0_ok _)) (noTL_ok _ _) (f := 14) (fn := Tryz.f14) (by kernel_rfl) (loops_of (f := 14) (fn := Tryz.f14) (by kernel_rfl) (loops_0 (by kernel_rfl))) (eBl l n)
end Go.Proofs.YtjmlnjjinhmanaaGreatDoor

/-
  HOW MUCH ITEMS HAVE (the document's Great): the calls return, whatever the items.
-/

namespace Go.Proofs.YtjmlnjjinhmanaaGreatDoor
open Go.Eng

set_option maxRecDepth 100000

def pl1i (f : List ItemR → Int → Bool × D Pl) : List (D Pl) → Option (Bool × D Pl)
  | [d, .int .i64 n] => match asI d with
    | some a => some (f a n)
    | none => none
  | _ => none
theorem pl1i_ok {g : FuncId} {f : List ItemR → Int → Bool × D Pl} (h : ∀ a n, (f a n).1 = true → Snd g [.pl (pItems a) .any, dI n] (f a n).2) : ∀ ds b d, pl1i f ds = some (b, d) → b = true → Snd g ds d := by
  intro ds b d hp hb
  unfold pl1i at hp
  split at hp
  · split at hp
    · rename_i ha
      simp only [Option.some.injEq] at hp
      have h1 := h _ _ (by rw [hp]; exact hb)
      rw [hp] at h1
      exact h1.pre (.cons (asI_rdle ha) (.cons (RDle.refl _) .nil))
    · simp at hp
  · simp at hp

def sG (l : List ItemR) (d i : Int) : St Pl := mkS 74 [(0, .pl (pItems l) .any), (1, dI d), (4, .bool false), (5, dI i)] []
def sGt (l : List ItemR) (d i : Int) : St Pl := mkS 74 [(0, .pl (pItems l) .any), (1, dI d), (4, .bool true), (5, dI i)] []
def sGk (l : List ItemR) (d i k : Int) : St Pl := mkS 74 [(0, .pl (pItems l) .any), (1, dI d), (4, .bool false), (5, dI i), (6, dI k)] []
def sGkt (l : List ItemR) (d i k : Int) : St Pl := mkS 74 [(0, .pl (pItems l) .any), (1, dI d), (4, .bool true), (5, dI i), (6, dI k)] []
def long (s : Str) : Bool := decide ((s.length : Int) > 2000)
theorem bGk (l : List ItemR) (d : Int) (i k : Nat) : evD tell0 noTL noL 1 (loopAt 9 1) [0, 1, 4, 5, 6] [] (sGk l d i k) =
    ix_ i l.length (lt_ k (l.getD i default).labels.length (ix_ i l.length (ix_ k (l.getD i default).labels.length (bif long ((l.getD i default).labels.getD k []) then some (.ret, sGkt l d i k) else some (.normal, sGk l d i (IntKind.i64.wrap ((k : Int) + 1)))))) (some (.exit 2, sGk l d i k))) := by kernel_rfl
theorem idsG : (loopsAt 9).length = 2 ∧ firstId (loopAt 9 0) = 4 ∧ firstId (loopAt 9 1) = 9 ∧ loopsOf (loopAt 9 1) = [] ∧ loopsOf (loopAt 9 0) = [loopAt 9 1] := ⟨by kernel_rfl, by kernel_rfl, by kernel_rfl, by kernel_rfl, by kernel_rfl⟩
def LSGk (S : St Pl) : Option (Bool × LR Pl) := match seenS 74 [0, 1, 4, 5, 6] S with
  | some ([.pl ⟨.items, l⟩ .any, .int .i64 d, .bool false, .int .i64 (.ofNat i), .int .i64 (.ofNat 0)], []) =>
    some (Nat.blt i l.length && Nat.ble (l.getD i default).labels.length 10, .ite ((List.range (l.getD i default).labels.length).all fun k => !(long ((l.getD i default).labels.getD k []))) (.leaf (.exit 2) (sG l d i)) (.leaf .ret (sGt l d i)))
  | _ => none
theorem LSGk_ok : SOk X0 (loopAt 9 1) LSGk := by
  intro S c r h hc
  unfold LSGk at h
  split at h
  · rename_i l d i hs
    simp only [Option.some.injEq, Prod.mk.injEq] at h
    obtain ⟨rfl, rfl⟩ := h
    simp only [Bool.and_eq_true, Nat.ble_eq, Nat.blt_eq] at hc
    refine Goes.pre (keepOf [0, 1, 4, 5, 6]) ?_
    rw [seenS_mask hs]
    refine search_ofD (tell0_ok _) idsG.2.2.2.1 (k := 1) (keep := [0, 1, 4, 5, 6]) (lose := []) (keep2 := [0, 1, 4, 5]) (Sf := fun k => sGk l d i k) (S2' := fun k => sGkt l d i k) (p := fun k => !(long ((l.getD i default).labels.getD k []))) (by simp) (by simp) (fun k hk => ?_) ?_ rfl (fun k => rfl)
    · show evD tell0 noTL noL 1 (loopAt 9 1) [0, 1, 4, 5, 6] [] (sGk l d i k) = _
      have : k ≤ big := by have := hc.2; unfold big; omega
      rw [bGk, ix_t hc.1, lt_t hk, ix_t hc.1, ix_t hk, wrap_nat this]
      cases long ((l.getD i default).labels.getD k []) <;> rfl
    · show evD tell0 noTL noL 1 (loopAt 9 1) [0, 1, 4, 5, 6] [] (sGk l d i (l.getD i default).labels.length) = _
      rw [bGk, ix_t hc.1, lt_f (by omega)]
  · simp at h

noncomputable def tGr (n : Nat) (G : ExprR → Bool) (S : List ItemR → Int → Bool) : Eng.Told Pl := tell 23 (pe1 fun e => (true, .bool (G e))) (tell 9 (pl1i fun l d => (Nat.blt (iszs l) n, .bool (S l d))) tell0)
def g1 (G : ExprR → Bool) (x : ItemR) : Bool := bif G (etaE x.e) then true else decide ((x.labels.length : Int) > 10)
def g2 (G : ExprR → Bool) (x : ItemR) : Bool := bif g1 G x then true else decide ((x.name.length : Int) > 200)
def gAll (x : ItemR) : Bool := (List.range x.labels.length).all fun k => !(long (x.labels.getD k []))
theorem bG (l : List ItemR) (n : Nat) (G : ExprR → Bool) (S : List ItemR → Int → Bool) (d : Int) (i : Nat) : evD (tGr n G S) noTL (atL 9 LSGk noL) 1 (loopAt 9 0) [0, 1, 4, 5] [] (sG l d i) =
    lt_ i l.length (ix_ i l.length (ixo_ i l.length (G (etaE (l.getD i default).e) == false) (ixo_ i l.length (g1 G (l.getD i default) == false) (ixo_ i l.length (g2 G (l.getD i default) == false)
      (bif (g2 G (l.getD i default) == false) then ck_ (Nat.blt (iszs (l.getD i default).items) n) (bif S (l.getD i default).items (IntKind.i64.wrap (d - 1)) then some (.ret, sGt l d i) else
        ck_ (Nat.blt i l.length && Nat.ble (l.getD i default).labels.length 10) (bif gAll (l.getD i default) then some (.normal, sG l d (IntKind.i64.wrap ((i : Int) + 1))) else some (.ret, sGt l d i))) else some (.ret, sGt l d i)))))) (some (.exit 0, sG l d i)) := by kernel_rfl

def gOne (G : ExprR → Bool) (S : List ItemR → Int → Bool) (d : Int) (x : ItemR) : Bool := bif g2 G x then true else bif S x.items (IntKind.i64.wrap (d - 1)) then true else !(gAll x)
def LSG (n : Nat) (G : ExprR → Bool) (S : List ItemR → Int → Bool) (T : St Pl) : Option (Bool × LR Pl) := match seenS 74 [0, 1, 4, 5] T with
  | some ([.pl ⟨.items, l⟩ .any, .int .i64 d, .bool false, .int .i64 (.ofNat 0)], []) => some (Nat.ble l.length big && Nat.blt (iszs l) (n + 1), .ite ((List.range l.length).all fun i => !(gOne G S d (l.getD i default))) (.leaf (.exit 0) (mkS 74 [(4, .bool false)] [])) (.leaf .ret (mkS 74 [(4, .bool true)] [])))
  | _ => none
theorem LSG_ok {n : Nat} {G : ExprR → Bool} {S : List ItemR → Int → Bool} (hT : TOk (tGr n G S)) : SOk X0 (loopAt 9 0) (LSG n G S) := by
  intro T c r h hc
  unfold LSG at h
  split at h
  · rename_i l d hs
    simp only [Option.some.injEq, Prod.mk.injEq] at h
    obtain ⟨rfl, rfl⟩ := h
    simp only [Bool.and_eq_true, Nat.ble_eq, Nat.blt_eq] at hc
    refine Goes.pre (keepOf [0, 1, 4, 5]) ?_
    rw [seenS_mask hs]
    have hL : ∀ c ∈ loopsOf (loopAt 9 0), LoopOk X0 (atL 9 LSGk noL) c := by
      rw [idsG.2.2.2.2]
      intro c hc
      rw [List.mem_singleton] at hc
      subst hc
      exact atL_ok (fun _ => LSGk_ok) fun h => absurd idsG.2.2.1 h
    have hstep : ∀ i : Nat, i < l.length → evD (tGr n G S) noTL (atL 9 LSGk noL) 1 (loopAt 9 0) [0, 1, 4, 5] [] (sG l d i) = bif !(gOne G S d (l.getD i default)) then some (.normal, sG l d ((i + 1 : Nat) : Int)) else some (.ret, sGt l d i) := by
      intro i hi
      rw [bG, lt_t hi, ix_t hi, ixo_t hi, ixo_t hi, ixo_t hi, ck_t (blt_t (items_lt hc.2 hi)), wrap_nat (by omega)]
      unfold gOne
      cases h2 : g2 G (l.getD i default) with
      | true => rfl
      | false =>
        have h10 : (l.getD i default).labels.length ≤ 10 := by
          unfold g2 at h2
          cases h1 : g1 G (l.getD i default) with
          | true => rw [h1] at h2; simp at h2
          | false =>
            unfold g1 at h1
            cases h0 : G (etaE (l.getD i default).e) with
            | true => rw [h0] at h1; simp at h1
            | false =>
              rw [h0, cond_false, decide_eq_false_iff_not] at h1
              omega
        rw [ck_t (by rw [blt_t hi, ble_t h10]; rfl)]
        cases S (l.getD i default).items (IntKind.i64.wrap (d - 1)) <;> cases gAll (l.getD i default) <;> rfl
    refine loop_search (Sf := fun i => sG l d i) (n := l.length) (p := fun i => !(gOne G S d (l.getD i default))) (by simp) (by simp) (fun i hi hp => ?_) (fun i hi hp => ?_) ?_
    · have hp : (!(gOne G S d (l.getD i default))) = true := hp
      exact goes_ofD hT (noTL_ok _ _) hL ((hstep i hi).trans (by rw [hp]; rfl))
    · have hp : (!(gOne G S d (l.getD i default))) = false := hp
      exact (goes_ofD hT (noTL_ok _ _) hL ((hstep i hi).trans (show _ = some (.ret, sGt l d i) by rw [hp]; rfl))).post (keepOf [4])
    · exact (goes_ofD hT (noTL_ok _ _) hL ((bG l n G S d l.length).trans (show _ = some (.exit 0, sG l d l.length) by rw [lt_f (by omega)]))).post (keepOf [4])
  · simp at h

def gTop (d : Int) (l : List ItemR) : Bool := bif d == 0 then true else decide ((l.length : Int) > 200)
theorem eG (l : List ItemR) (n : Nat) (G : ExprR → Bool) (S : List ItemR → Int → Bool) (d : Int) : evF (tGr n G S) noTL (atL 4 (LSG n G S) (atL 9 LSGk noL)) 1 Tryz.f9 [.pl (pItems l) .any, dI d] =
    bif gTop d l then some (.bool true) else ck_ (Nat.ble l.length big && Nat.blt (iszs l) (n + 1)) (bif (List.range l.length).all (fun i => !(gOne G S d (l.getD i default))) then some (.bool false) else some (.bool true)) := by kernel_rfl

theorem igreat_n (G : ExprR → Bool) (hG : ∀ e, Snd 23 [.agg (cExpr e)] (.bool (G e))) : ∀ n, ∃ S : List ItemR → Int → Bool, ∀ l d, iszs l < n → Snd 9 [.pl (pItems l) .any, dI d] (.bool (S l d)) := by
  intro n
  induction n with
  | zero => exact ⟨fun _ _ => true, fun l d h => by omega⟩
  | succ n ih =>
    obtain ⟨S, hS⟩ := ih
    refine ⟨fun l d => bif gTop d l then true else !((List.range l.length).all fun i => !(gOne G S d (l.getD i default))), fun l d hlt => ?_⟩
    have hT : TOk (tGr n G S) := tell_ok (pe1_ok fun e _ => hG e) (tell_ok (pl1i_ok fun l d h => hS l d (by simp only [Nat.blt_eq] at h; exact h)) (tell0_ok _))
    refine SoundAt.rooms fun hroom => snd_fn (n := 1) hT (noTL_ok _ _) (fn := Tryz.f9) (by kernel_rfl) (loops_of (f := 9) (fn := Tryz.f9) (by kernel_rfl)
      (loops_2 idsG.1 (atL_ok (fun _ => LSG_ok hT) fun h => absurd idsG.2.1 h) (atL_ok (fun h => absurd (idsG.2.2.1.symm.trans h) (by decide)) fun _ => atL_ok (fun _ => LSGk_ok) fun h => absurd idsG.2.2.1 h))) ((eG l n G S d).trans ?_)
    have hk : l.length * 288 ≤ big := hroom (.pl (pItems l) .any) (by simp)
    rw [ck_t (by rw [ble_t (by omega), blt_t hlt]; rfl)]
    show _ = some (D.bool (bif gTop d l then true else !((List.range l.length).all fun i => !(gOne G S d (l.getD i default)))))
    cases gTop d l <;> cases (List.range l.length).all (fun i => !(gOne G S d (l.getD i default))) <;> rfl
theorem igreat_sound : ∃ S : List ItemR → Int → Bool, ∀ l d, Snd 9 [.pl (pItems l) .any, dI d] (.bool (S l d)) := by
  obtain ⟨G, hG⟩ := egreat_sound
  exact ⟨fun l d => (igreat_n G hG (iszs l + 1)).choose l d, fun l d => (igreat_n G hG (iszs l + 1)).choose_spec l d (Nat.lt_succ_self _)⟩
end Go.Proofs.YtjmlnjjinhmanaaGreatDoor

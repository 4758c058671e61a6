/-
  THE DOCUMENT's example of items comes to true: evaluated whole but for the lexer.
-/
import Derived.Test.YtjmlnjjinhmanaaGreatDoorAll
import Derived.Test.YtjmlnjjinhmanaaGreatDoorAsks
namespace Go.Proofs.YtjmlnjjinhmanaaGreatDoor
open Go.Eng

set_option maxRecDepth 100000

def tAw : Eng.Told Pl := tell 15 pAll tell0
theorem tAw_ok : TOk tAw := tell_ok pAll_ok (tell0_ok _)
theorem awake_sound : Snd 6 [] (.bool true) := snd_of (n := 60) tAw_ok (noTL_ok _ _) (by kernel_rfl)

end Go.Proofs.YtjmlnjjinhmanaaGreatDoor

/-
  THE STATEMENT's OWN FUNCTION: it answers true, whatever the items and the name.
-/

namespace Go.Proofs.YtjmlnjjinhmanaaGreatDoor
open Go.Eng

set_option maxRecDepth 100000

-- its loop: the first attribute of the name, the blocks of the name

def atA (l : List ItemR) (n : Str) : Nat → Int
  | 0 => -1
  | i + 1 => bif (bif pA n (l.getD i default) then decide (atA l n i < 0) else false) then (i : Int) else atA l n i
def bkI (l : List ItemR) (n : Str) (i : Nat) : List ItemR := (List.range i).filterMap (gfI (pB n) l)
theorem blk_succ (l : List ItemR) (n : Str) (i : Nat) : bkI l n (i + 1) = bif pB n (l.getD i default) then bkI l n i ++ [l.getD i default] else bkI l n i := by
  unfold bkI
  rw [List.range_succ, List.filterMap_append]
  have h : gfI (pB n) l i = bif pB n (l.getD i default) then some (l.getD i default) else none := by unfold gfI; rw [etaI_eq]
  simp only [List.filterMap_cons, List.filterMap_nil, h]
  cases pB n (l.getD i default) <;> simp
theorem blk_len (l : List ItemR) (n : Str) (i : Nat) : (bkI l n i).length ≤ i := by
  have := List.length_filterMap_le (gfI (pB n) l) (List.range i)
  simpa [bkI] using this

def sX0 (l : List ItemR) (n : Str) (x i : Int) : St Pl := mkS 104 [(0, .pl (pItems l) .any), (2, .str n), (7, dI x), (8, .nilS), (9, dI i)] []
def sX1 (l o : List ItemR) (n : Str) (x i : Int) : St Pl := mkS 104 [(0, .pl (pItems l) .any), (2, .str n), (7, dI x), (8, .arr 68), (9, dI i)] [(68, .arr false (pItems o))]
theorem bX0 (l : List ItemR) (n : Str) (x : Int) (i : Nat) : evD tell0 noTL noL 1 (loopAt 5 0) [0, 2, 7, 8, 9] [] (sX0 l n x i) =
    lt_ i l.length (ix_ i l.length (bif !((l.getD i default).name == n) then some (.normal, sX0 l n x (IntKind.i64.wrap ((i : Int) + 1))) else ix_ i l.length (bif (l.getD i default).block then ix_ i l.length (some (.normal, sX1 l [etaI (l.getD i default)] n x (IntKind.i64.wrap ((i : Int) + 1))))
      else bif decide (x < 0) then some (.normal, sX0 l n i (IntKind.i64.wrap ((i : Int) + 1))) else some (.normal, sX0 l n x (IntKind.i64.wrap ((i : Int) + 1)))))) (some (.exit 0, sX0 l n x i)) := by kernel_rfl
theorem bX1 (l o : List ItemR) (n : Str) (x : Int) (i : Nat) : evD tell0 noTL noL 1 (loopAt 5 0) [0, 2, 7, 8, 9] [] (sX1 l o n x i) =
    lt_ i l.length (ix_ i l.length (bif !((l.getD i default).name == n) then some (.normal, sX1 l o n x (IntKind.i64.wrap ((i : Int) + 1))) else ix_ i l.length (bif (l.getD i default).block then ix_ i l.length (ck_ (true && Nat.ble ((o.length + 1) * 288) big) (some (.normal, sX1 l (o ++ [etaI (l.getD i default)]) n x (IntKind.i64.wrap ((i : Int) + 1)))))
      else bif decide (x < 0) then some (.normal, sX1 l o n i (IntKind.i64.wrap ((i : Int) + 1))) else some (.normal, sX1 l o n x (IntKind.i64.wrap ((i : Int) + 1)))))) (some (.exit 0, sX1 l o n x i)) := by kernel_rfl
theorem idsX : (loopsAt 5).length = 1 ∧ firstId (loopAt 5 0) = 8 ∧ loopsOf (loopAt 5 0) = [] := ⟨by kernel_rfl, by kernel_rfl, by kernel_rfl⟩

def stX (l : List ItemR) (n : Str) (o : List ItemR) (x i : Int) : St Pl := match o with
  | [] => sX0 l n x i
  | y :: r => sX1 l (y :: r) n x i
def rX (l : List ItemR) (n : Str) (o : List ItemR) (x : Int) : St Pl := match o with
  | [] => mkS 104 [(0, .pl (pItems l) .any), (2, .str n), (7, dI x), (8, .nilS)] []
  | y :: r => mkS 104 [(0, .pl (pItems l) .any), (2, .str n), (7, dI x), (8, .arr 68)] [(68, .arr false (pItems (y :: r)))]

theorem stX_snoc (l : List ItemR) (n : Str) (o : List ItemR) (z : ItemR) (x i : Int) : stX l n (o ++ [z]) x i = sX1 l (o ++ [z]) n x i := by
  cases o <;> rfl

theorem stepX (l : List ItemR) (n : Str) (i : Nat) (hi : i < l.length) (hb : l.length * 288 ≤ big) :
    GoesTo (loopAt 5 0) (stX l n (bkI l n i) (atA l n i) i) .normal (stX l n (bkI l n (i + 1)) (atA l n (i + 1)) ((i + 1 : Nat) : Int)) := by
  have hlen := blk_len l n i
  rw [blk_succ]
  show GoesTo _ _ _ (stX l n _ (bif (bif pA n (l.getD i default) then decide (atA l n i < 0) else false) then (i : Int) else atA l n i) _)
  generalize bkI l n i = o at hlen ⊢
  generalize atA l n i = x
  unfold pA pB
  cases o with
  | nil =>
    refine goes_ofD (tell0_ok _) (noTL_ok _ _) (noLoops idsX.2.2) ((bX0 l n x i).trans ?_)
    rw [lt_t hi, ix_t hi, ix_t hi, ix_t hi, wrap_nat (by omega), etaI_eq]
    cases (l.getD i default).name == n <;> cases (l.getD i default).block <;> cases decide (x < 0) <;> rfl
  | cons y r =>
    refine goes_ofD (tell0_ok _) (noTL_ok _ _) (noLoops idsX.2.2) ((bX1 l (y :: r) n x i).trans ?_)
    rw [lt_t hi, ix_t hi, ix_t hi, ix_t hi, wrap_nat (by omega), etaI_eq, ck_t (by rw [Bool.true_and]; exact ble_t (by omega))]
    cases (l.getD i default).name == n <;> cases (l.getD i default).block <;> cases decide (x < 0) <;> rfl

theorem loopX (l : List ItemR) (n : Str) (hb : l.length * 288 ≤ big) : GoesTo (.loop (loopAt 5 0)) (sX0 l n (-1) 0) (.exit 0) (rX l n (bkI l n l.length) (atA l n l.length)) := by
  refine loop_goes (by simp) l.length (fun i => stX l n (bkI l n i) (atA l n i) i) (fun i hi => stepX l n i hi hb) ?_
  show GoesTo _ (stX l n (bkI l n l.length) (atA l n l.length) l.length) _ _
  generalize bkI l n l.length = o
  generalize atA l n l.length = x
  cases o with
  | nil => exact (goes_ofD (tell0_ok _) (noTL_ok _ _) (noLoops idsX.2.2) ((bX0 l n x l.length).trans (show _ = some (.exit 0, sX0 l n x l.length) by rw [lt_f (by omega)]))).post (keepOf [0, 2, 7, 8])
  | cons y r => exact (goes_ofD (tell0_ok _) (noTL_ok _ _) (noLoops idsX.2.2) ((bX1 l (y :: r) n x l.length).trans (show _ = some (.exit 0, sX1 l (y :: r) n x l.length) by rw [lt_f (by omega)]))).post (keepOf [0, 2, 7, 8])

/-- where the first attribute of the name is -/
def kA (l : List ItemR) (n : Str) : Nat := ff (fun i => !(pA n (l.getD i default))) l.length

theorem atA_none (l : List ItemR) (n : Str) : ∀ m, (∀ i, i < m → pA n (l.getD i default) = false) → atA l n m = -1
  | 0, _ => rfl
  | m + 1, h => by
    rw [atA, h m (by omega), cond_false, cond_false]
    exact atA_none l n m fun i hi => h i (by omega)
theorem atA_some (l : List ItemR) (n : Str) (k : Nat) (h1 : pA n (l.getD k default) = true) (h2 : ∀ i, i < k → pA n (l.getD i default) = false) : ∀ m, k < m → atA l n m = (k : Int)
  | m + 1, h => by
    rw [atA]
    by_cases hk : k = m
    · subst hk
      rw [h1, atA_none l n k h2]
      rfl
    · rw [atA_some l n k h1 h2 m (by omega), decide_eq_false (by omega)]
      cases pA n (l.getD m default) <;> rfl

theorem filter_first (p : ItemR → Bool) (d : ItemR) : ∀ (l : List ItemR) (k : Nat), k < l.length → p (l.getD k default) = true → (∀ i, i < k → p (l.getD i default) = false) → (l.filter p).getD 0 d = l.getD k default ∧ (l.filter p).isEmpty = false
  | x :: r, 0, _, h1, _ => by
    have h1 : p x = true := h1
    rw [List.filter_cons, h1]
    exact ⟨rfl, rfl⟩
  | x :: r, k + 1, hk, h1, h2 => by
    have h0 : p x = false := h2 0 (by omega)
    rw [List.filter_cons, h0]
    exact filter_first p d r k (by simpa using hk) h1 fun i hi => h2 (i + 1) (by omega)
theorem filter_none (p : ItemR → Bool) (l : List ItemR) (h : ∀ i, i < l.length → p (l.getD i default) = false) : l.filter p = [] := by
  rw [List.filter_eq_nil_iff]
  intro x hx
  obtain ⟨i, hi, rfl⟩ := List.mem_iff_getElem.1 hx
  have := h i hi
  rw [List.getD_eq_getElem?_getD, List.getElem?_eq_getElem hi] at this
  simpa using this

def LSX1 (S : St Pl) : Option (Bool × LR Pl) := match seenS 104 [0, 2, 7, 8, 9] S with
  | some ([.pl ⟨.items, l⟩ .any, .str n, .int .i64 (.negSucc 0), .nilS, .int .i64 (.ofNat 0)], []) =>
    some (Nat.ble (l.length * 288) big && Nat.blt (kA l n) l.length, .ite (l.filter (pB n)).isEmpty
      (.leaf (.exit 0) (mkS 104 [(0, .pl (pItems l) .any), (2, .str n), (7, dI (kA l n)), (8, .nilS)] [])) (.leaf (.exit 0) (mkS 104 [(0, .pl (pItems l) .any), (2, .str n), (7, dI (kA l n)), (8, .arr 68)] [(68, .arr false (pItems (l.filter (pB n))))])))
  | _ => none
def LSX0 (S : St Pl) : Option (Bool × LR Pl) := match seenS 104 [0, 2, 7, 8, 9] S with
  | some ([.pl ⟨.items, l⟩ .any, .str n, .int .i64 (.negSucc 0), .nilS, .int .i64 (.ofNat 0)], []) =>
    some (Nat.ble (l.length * 288) big && Nat.beq (kA l n) l.length, .ite (l.filter (pB n)).isEmpty
      (.leaf (.exit 0) (mkS 104 [(0, .pl (pItems l) .any), (2, .str n), (7, dI (-1)), (8, .nilS)] [])) (.leaf (.exit 0) (mkS 104 [(0, .pl (pItems l) .any), (2, .str n), (7, dI (-1)), (8, .arr 68)] [(68, .arr false (pItems (l.filter (pB n))))])))
  | _ => none
theorem rX_ite (l : List ItemR) (n : Str) (o : List ItemR) (x : Int) : (Ex.exit 0, rX l n o x) = pickR (.ite o.isEmpty (.leaf (.exit 0) (mkS 104 [(0, .pl (pItems l) .any), (2, .str n), (7, dI x), (8, .nilS)] [])) (.leaf (.exit 0) (mkS 104 [(0, .pl (pItems l) .any), (2, .str n), (7, dI x), (8, .arr 68)] [(68, .arr false (pItems o))]))) := by
  cases o <;> rfl
theorem kA_some {l : List ItemR} {n : Str} (h : kA l n < l.length) : pA n (l.getD (kA l n) default) = true ∧ ∀ i, i < kA l n → pA n (l.getD i default) = false := by
  rcases ff_spec l.length (fun i => !(pA n (l.getD i default))) with ⟨h1, _⟩ | ⟨_, h2, h3⟩
  · have : kA l n = l.length := h1
    omega
  · refine ⟨?_, fun i hi => ?_⟩
    · have h : (!(pA n (l.getD (kA l n) default))) = false := h2
      rwa [Bool.not_eq_false'] at h
    · have h : (!(pA n (l.getD i default))) = true := h3 i hi
      rwa [Bool.not_eq_true'] at h
theorem kA_none {l : List ItemR} {n : Str} (h : kA l n = l.length) : ∀ i, i < l.length → pA n (l.getD i default) = false := by
  rcases ff_spec l.length (fun i => !(pA n (l.getD i default))) with ⟨_, h2⟩ | ⟨h1, _, _⟩
  · intro i hi
    have h : (!(pA n (l.getD i default))) = true := h2 i hi
    rwa [Bool.not_eq_true'] at h
  · have h1 : kA l n < l.length := h1
    omega
theorem blk_all (l : List ItemR) (n : Str) : bkI l n l.length = l.filter (pB n) := flI_eq (pB n) l
theorem LSX1_ok : SOk X0 (loopAt 5 0) LSX1 := by
  intro S c r h hc
  unfold LSX1 at h
  split at h
  · rename_i l n hs
    simp only [Option.some.injEq, Prod.mk.injEq] at h
    obtain ⟨rfl, rfl⟩ := h
    simp only [Bool.and_eq_true, Nat.ble_eq, Nat.blt_eq] at hc
    refine Goes.pre (keepOf [0, 2, 7, 8, 9]) ?_
    rw [seenS_mask hs]
    have h1 := loopX l n hc.1
    obtain ⟨k1, k2⟩ := kA_some hc.2
    rw [blk_all, atA_some l n (kA l n) k1 k2 _ hc.2] at h1
    have he := rX_ite l n (l.filter (pB n)) (kA l n : Nat)
    rw [← he]
    exact h1
  · simp at h
theorem LSX0_ok : SOk X0 (loopAt 5 0) LSX0 := by
  intro S c r h hc
  unfold LSX0 at h
  split at h
  · rename_i l n hs
    simp only [Option.some.injEq, Prod.mk.injEq] at h
    obtain ⟨rfl, rfl⟩ := h
    simp only [Bool.and_eq_true, Nat.ble_eq] at hc
    have hk := Nat.eq_of_beq_eq_true hc.2
    refine Goes.pre (keepOf [0, 2, 7, 8, 9]) ?_
    rw [seenS_mask hs]
    have h1 := loopX l n hc.1
    rw [blk_all, atA_none l n _ (kA_none hk)] at h1
    have he := rX_ite l n (l.filter (pB n)) (-1)
    rw [← he]
    exact h1
  · simp at h

-- what it calls

def pAt1 : List (D Pl) → Option (Bool × D Pl)
  | [d, .str n] => match asI d with
    | some l => some (!(l.filter (pA n)).isEmpty, .tup [.agg (cItem ((l.filter (pA n)).getD 0 zI)), .bool true])
    | none => none
  | _ => none
theorem pAt1_ok : ∀ ds b d, pAt1 ds = some (b, d) → b = true → Snd 13 ds d := by
  intro ds b d h hb
  unfold pAt1 at h
  split at h
  · split at h
    · rename_i n _ l h1
      simp only [Option.some.injEq, Prod.mk.injEq] at h
      obtain ⟨rfl, rfl⟩ := h
      have := attr_sound l n
      rw [hb] at this
      exact this.pre (.cons (asI_rdle h1) (.cons (RDle.refl _) .nil))
    · simp at h
  · simp at h
def pAt0 : List (D Pl) → Option (Bool × D Pl)
  | [d, .str n] => match asI d with
    | some l => some ((l.filter (pA n)).isEmpty, .tup [.agg (cItem zI), .bool false])
    | none => none
  | _ => none
theorem pAt0_ok : ∀ ds b d, pAt0 ds = some (b, d) → b = true → Snd 13 ds d := by
  intro ds b d h hb
  unfold pAt0 at h
  split at h
  · split at h
    · rename_i n _ l h1
      simp only [Option.some.injEq, Prod.mk.injEq] at h
      obtain ⟨rfl, rfl⟩ := h
      have := attr_sound l n
      rw [List.isEmpty_iff.1 hb] at this
      exact this.pre (.cons (asI_rdle h1) (.cons (RDle.refl _) .nil))
    · simp at h
  · simp at h
def pBl : List (D Pl) → Option (Bool × D Pl)
  | [d, .str n] => match asI d with
    | some l => some (true, .pl (pItems (l.filter (pB n))) .any)
    | none => none
  | _ => none
theorem pBl_ok : ∀ ds b d, pBl ds = some (b, d) → b = true → Snd 14 ds d := by
  intro ds b d h hb
  unfold pBl at h
  split at h
  · split at h
    · rename_i h1
      simp only [Option.some.injEq, Prod.mk.injEq] at h
      obtain ⟨_, rfl⟩ := h
      exact (blocks_sound _ _).pre (.cons (asI_rdle h1) (.cons (RDle.refl _) .nil))
    · simp at h
  · simp at h
def pAwake : List (D Pl) → Option (Bool × D Pl)
  | [] => some (true, .bool true)
  | _ => none
theorem pAwake_ok : ∀ ds b d, pAwake ds = some (b, d) → b = true → Snd 6 ds d := by
  intro ds b d h hb
  unfold pAwake at h
  split at h
  · simp only [Option.some.injEq, Prod.mk.injEq] at h
    obtain ⟨_, rfl⟩ := h
    exact awake_sound
  · simp at h

noncomputable def tX (pAt : List (D Pl) → Option (Bool × D Pl)) (S : List ItemR → Int → Bool) : Eng.Told Pl := tell 13 pAt (tell 14 pBl (tell 8 (pl2b fun a b m => (true, .bool (sameIs m a b))) (tell 6 pAwake (tell 9 (pl1i fun l d => (true, .bool (S l d)))
  (tell 10 (pl2 fun a b => (true, .bool (sameIs false a b))) (tell 11 (pl1 fun l => (true, dI (deepI l))) (tell 12 (pl1 fun l => (true, dI (deepI l))) tell0)))))))
theorem tX_ok {pAt : List (D Pl) → Option (Bool × D Pl)} (hA : ∀ ds b d, pAt ds = some (b, d) → b = true → Snd 13 ds d) {S : List ItemR → Int → Bool} (hS : ∀ l d, Snd 9 [.pl (pItems l) .any, dI d] (.bool (S l d))) : TOk (tX pAt S) :=
  tell_ok hA (tell_ok pBl_ok (tell_ok (pl2b_ok fun a b m _ => risame_sound m a b) (tell_ok pAwake_ok (tell_ok (pl1i_ok fun l d _ => hS l d) (tell_ok (pl2_ok fun a b _ => isame_sound a b) (tell_ok (pl1_ok fun l _ => idepth_sound l) (tell_ok (pl1_ok fun l _ => irdepth_sound l) (tell0_ok _))))))))

def yes' : Option (D Pl) := some (.bool true)
def no' : Option (D Pl) := some (.bool false)
def preX (S : List ItemR → Int → Bool) (a b : List ItemR) (n : Str) (x : Option (D Pl)) : Option (D Pl) :=
  bif (S a 10 == false) then (bif (bif S b 10 then true else decide ((n.length : Int) > 100)) then yes' else
    bif ((!(sameIs false a b == sameIs false a b)) == false) then (bif ((!(sameIs false a a)) == false) then (bif deepI a != deepI a then no' else x) else no') else no') else yes'
def cz (l : List ItemR) (k : Nat) : Bool := (true && decide ((0 : Int) ≤ (k : Int)) && decide ((k : Int) ≤ IntKind.i64.wrap ((k : Int) + 1)) && decide (IntKind.i64.wrap ((k : Int) + 1) ≤ (l.length : Int))) || !(true && ((!(true == decide ((k : Int) ≥ 0))) == false))
def tlX (l bl b2 : List ItemR) (k : Nat) (r : ItemR) : Option (D Pl) :=
  ck_ (cz l k) (bif !(sameIs true [etaI r] (List.take ((IntKind.i64.wrap ((k : Int) + 1)).toNat - k) (List.drop k l))) then no' else bif sameIs true bl b2 == true then yes' else no')

theorem eX1 (S : List ItemR → Int → Bool) (a b : List ItemR) (n : Str) : evF (tX pAt1 S) noTL (atL 8 LSX1 noL) 1 Tryz.f5 [.pl (pItems a) .any, .pl (pItems b) .any, .str n] =
    preX S a b n (ck_ (Nat.ble (a.length * 288) big && Nat.blt (kA a n) a.length) (bif (a.filter (pB n)).isEmpty then ck_ (!(a.filter (pA n)).isEmpty) (tlX a (a.filter (pB n)) [] (kA a n) ((a.filter (pA n)).getD 0 zI))
      else ck_ (!(a.filter (pA n)).isEmpty) (tlX a (a.filter (pB n)) (a.filter (pB n)) (kA a n) ((a.filter (pA n)).getD 0 zI)))) := by kernel_rfl
theorem eX0 (S : List ItemR → Int → Bool) (a b : List ItemR) (n : Str) : evF (tX pAt0 S) noTL (atL 8 LSX0 noL) 1 Tryz.f5 [.pl (pItems a) .any, .pl (pItems b) .any, .str n] =
    preX S a b n (ck_ (Nat.ble (a.length * 288) big && Nat.beq (kA a n) a.length) (bif (a.filter (pB n)).isEmpty then ck_ (a.filter (pA n)).isEmpty (bif sameIs true (a.filter (pB n)) [] == true then yes' else no')
      else ck_ (a.filter (pA n)).isEmpty (bif sameIs true (a.filter (pB n)) (a.filter (pB n)) == true then yes' else no'))) := by kernel_rfl

theorem preX_true {S : List ItemR → Int → Bool} {a b : List ItemR} {n : Str} {x : Option (D Pl)} (h : x = yes') : preX S a b n x = some (.bool true) := by
  subst h
  unfold preX
  rw [beq_self_eq_true, sameIs_refl, show (deepI a != deepI a) = false by simp]
  cases S a 10 <;> cases S b 10 <;> cases decide ((n.length : Int) > 100) <;> rfl

theorem asks_sound (a b : List ItemR) (n : Str) : Snd 5 [.pl (pItems a) .any, .pl (pItems b) .any, .str n] (.bool true) := by
  obtain ⟨S, hS⟩ := igreat_sound
  refine SoundAt.rooms fun hroom => ?_
  have ha : a.length * 288 ≤ big := hroom (.pl (pItems a) .any) (by simp)
  have hk : kA a n ≤ a.length := by
    rcases ff_spec a.length (fun i => !(pA n (a.getD i default))) with ⟨h1, _⟩ | ⟨h1, _, _⟩
    · exact Nat.le_of_eq h1
    · exact Nat.le_of_lt h1
  have hre : sameIs true (a.filter (pB n)) (a.filter (pB n)) = true := sameIs_refl _ _
  by_cases hlt : kA a n < a.length
  · refine snd_fn (n := 1) (tX_ok pAt1_ok hS) (noTL_ok _ _) (fn := Tryz.f5) (by kernel_rfl) (loops_of (f := 5) (fn := Tryz.f5) (by kernel_rfl) (loops_1 idsX.1 (atL_ok (fun _ => LSX1_ok) fun h => absurd idsX.2.1 h))) ((eX1 S a b n).trans (preX_true ?_))
    obtain ⟨k1, k2⟩ := kA_some hlt
    obtain ⟨f1, f2⟩ := filter_first (pA n) zI a (kA a n) hlt k1 k2
    have hw : IntKind.i64.wrap ((kA a n : Int) + 1) = ((kA a n + 1 : Nat) : Int) := wrap_nat (by omega)
    have hcz : cz a (kA a n) = true := by
      unfold cz
      rw [hw, decide_eq_true (show (kA a n : Int) ≤ ((kA a n + 1 : Nat) : Int) by omega), decide_eq_true (show ((kA a n + 1 : Nat) : Int) ≤ (a.length : Int) by omega), decide_eq_true (show (0 : Int) ≤ (kA a n : Int) by omega)]
      rfl
    have htk : List.take ((IntKind.i64.wrap ((kA a n : Int) + 1)).toNat - kA a n) (List.drop (kA a n) a) = [a.getD (kA a n) default] := by
      rw [hw, Int.toNat_natCast, show kA a n + 1 - kA a n = 1 by omega, List.drop_eq_getElem_cons hlt, List.getD_eq_getElem?_getD, List.getElem?_eq_getElem hlt]
      rfl
    have hsm : sameIs true [etaI (a.getD (kA a n) default)] [a.getD (kA a n) default] = true := by
      rw [etaI_eq]; exact sameIs_refl _ _
    have htl : ∀ b2, sameIs true (a.filter (pB n)) b2 = true → tlX a (a.filter (pB n)) b2 (kA a n) ((a.filter (pA n)).getD 0 zI) = yes' := by
      intro b2 h2
      unfold tlX
      rw [ck_t hcz, f1, htk, hsm, h2]
      rfl
    rw [ck_t (by rw [ble_t ha, blt_t hlt]; rfl), f2]
    cases he : (a.filter (pB n)).isEmpty with
    | true =>
      have he' := List.isEmpty_iff.1 he
      rw [cond_true, ck_t (show (!false) = true from rfl), htl [] (by rw [he']; rfl)]
    | false => rw [cond_false, ck_t (show (!false) = true from rfl), htl _ hre]
  · have hk' : kA a n = a.length := by omega
    refine snd_fn (n := 1) (tX_ok pAt0_ok hS) (noTL_ok _ _) (fn := Tryz.f5) (by kernel_rfl) (loops_of (f := 5) (fn := Tryz.f5) (by kernel_rfl) (loops_1 idsX.1 (atL_ok (fun _ => LSX0_ok) fun h => absurd idsX.2.1 h))) ((eX0 S a b n).trans (preX_true ?_))
    have hf : a.filter (pA n) = [] := filter_none (pA n) a (kA_none hk')
    rw [ck_t (by rw [ble_t ha, hk', Nat.beq_refl]; rfl), hf]
    cases he : (a.filter (pB n)).isEmpty with
    | true =>
      have he' := List.isEmpty_iff.1 he
      rw [cond_true, ck_t (show ([] : List ItemR).isEmpty = true from rfl), he']
      rfl
    | false => rw [cond_false, ck_t (show ([] : List ItemR).isEmpty = true from rfl), hre]; rfl
end Go.Proofs.YtjmlnjjinhmanaaGreatDoor

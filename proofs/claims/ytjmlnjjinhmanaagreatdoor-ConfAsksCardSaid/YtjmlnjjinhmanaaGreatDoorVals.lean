/-
  THE DOCUMENT's AND THE PROGRAM's FUNCTIONS ON VALUES, in plain Lean: equality, size.
-/
import Derived.Test.YtjmlnjjinhmanaaGreatDoorLib
import Derived.IntWalk
namespace Go.Proofs.YtjmlnjjinhmanaaGreatDoor
open Go.Eng

mutual
/-- how many values there are in it, its names counted -/
def vsz : Val → Nat
  | ⟨_, _, _, l, ks, _, _, _⟩ => 1 + ks.length + vszs l
def vszs : List Val → Nat
  | [] => 0
  | v :: r => vsz v + vszs r
end

/-- Is any of both but the elements unlike? -/
def c12 (a b : Val) (m : Bool) : Bool :=
  bif (bif (bif (bif (bif (bif (a.kind != b.kind) then true else a.i != b.i) then true else !(a.s == b.s)) then true else !(a.tk == b.tk && (a.tof == b.tof && true))) then true else (bif m then !(a.sec == b.sec) else false)) then true else ((a.l.length : Int) != (b.l.length : Int))) then true else ((a.keys.length : Int) != (b.keys.length : Int))

mutual
def sameV : Val → Val → Bool → Bool
  | ⟨k, i, s, l, ks, tk, tof, sec⟩, b, m => !(c12 ⟨k, i, s, l, ks, tk, tof, sec⟩ b m) && (ks == b.keys && sameVs l b.l m)
def sameVs : List Val → List Val → Bool → Bool
  | [], _, _ => true
  | x :: r, l, m => match l with
    | [] => false
    | y :: s => sameV x y m && sameVs r s m
end

def keysEq (a b : Val) : Bool := (List.range a.keys.length).all fun i => a.keys.getD i [] == b.keys.getD i []
def elemsEq (a b : Val) (m : Bool) : Bool := (List.range a.l.length).all fun i => sameV (a.l.getD i default) (b.l.getD i default) m

theorem all_range_succ (n : Nat) (p : Nat → Bool) : (List.range (n + 1)).all p = (p 0 && (List.range n).all fun i => p (i + 1)) := by
  rw [List.range_succ_eq_map, List.all_cons, List.all_map]; rfl

theorem all_beq {α : Type} [BEq α] [LawfulBEq α] (d : α) : ∀ (l l' : List α), l.length = l'.length → ((List.range l.length).all fun i => l.getD i d == l'.getD i d) = (l == l')
  | [], [], _ => rfl
  | [], _ :: _, h => by simp at h
  | _ :: _, [], h => by simp at h
  | x :: r, y :: s, h => by
    rw [List.length_cons, all_range_succ, List.cons_beq_cons, ← all_beq d r s (by simpa using h)]
    rfl

theorem all_same (m : Bool) : ∀ (l l' : List Val), l.length = l'.length → ((List.range l.length).all fun i => sameV (l.getD i default) (l'.getD i default) m) = sameVs l l' m
  | [], l', _ => by simp [sameVs]
  | _ :: _, [], h => by simp at h
  | x :: r, y :: s, h => by
    rw [List.length_cons, all_range_succ, sameVs, ← all_same m r s (by simpa using h)]
    rfl

theorem c12_len {a b : Val} {m : Bool} (h : c12 a b m = false) : a.l.length = b.l.length ∧ a.keys.length = b.keys.length := by
  have key : ∀ X A B : Bool, (bif (bif X then true else A) then true else B) = false → A = false ∧ B = false := by decide
  obtain ⟨h1, h2⟩ := key _ _ _ h
  simp only [bne_eq_false_iff_eq] at h1 h2
  omega

theorem sameV_eq (a b : Val) (m : Bool) : sameV a b m = (!(c12 a b m) && (keysEq a b && elemsEq a b m)) := by
  cases hc : c12 a b m with
  | true =>
    obtain ⟨k, i, s, l, ks, tk, tof, sec⟩ := a
    simp only [sameV, hc]; rfl
  | false =>
    obtain ⟨h1, h2⟩ := c12_len hc
    unfold keysEq elemsEq
    rw [all_beq [] _ _ h2, all_same m _ _ h1]
    obtain ⟨k, i, s, l, ks, tk, tof, sec⟩ := a
    simp only [sameV, hc]

/-- exactly a value's cells -/
def exV : List (D Pl) → Option Val
  | [.int .i64 k, .int .i64 i, .str s, .pl ⟨.vals, l⟩ .any, .pl ⟨.strs, ks⟩ .any, .int .i64 tk, .int .i64 tof, .bool sec] => some ⟨k, i, s, l, ks, tk, tof, sec⟩
  | _ => none

theorem exV_eq {cs : List (D Pl)} {v : Val} (h : exV cs = some v) : cs = cV v := by
  unfold exV at h
  split at h
  · simp only [Option.some.injEq] at h; subst h; rfl
  · simp at h

def etaV (v : Val) : Val := ⟨v.kind, v.i, v.s, v.l, v.keys, v.tk, v.tof, v.sec⟩
theorem etaV_eq (v : Val) : etaV v = v := by cases v; rfl

theorem vszs_mem {l : List Val} {x : Val} (h : x ∈ l) : vsz x ≤ vszs l := by
  induction l with
  | nil => simp at h
  | cons y r ih =>
    simp only [vszs]
    rcases List.mem_cons.1 h with rfl | h
    · omega
    · have := ih h; omega

theorem vsz_elem {v x : Val} (h : x ∈ v.l) : vsz x < vsz v := by
  obtain ⟨k, i, s, l, ks, tk, tof, sec⟩ := v
  have := vszs_mem h
  simp only [vsz]
  simp only at this
  omega

theorem getD_mem {α : Type} {l : List α} {i : Nat} {d : α} (h : i < l.length) : l.getD i d ∈ l := by
  rw [List.getD_eq_getElem?_getD, List.getElem?_eq_getElem h]
  exact List.getElem_mem h

/-- how many elements -/
def lenV (v : Val) : Int := bif v.kind == 4 then (v.l.length : Int) else bif v.kind == 5 then (bif (bif false then decide ((v.keys.length : Int) > (v.l.length : Int)) else decide ((v.keys.length : Int) < (v.l.length : Int))) then (v.keys.length : Int) else (v.l.length : Int)) else 0

def lenN (v : Val) : Nat := bif v.kind == 4 then v.l.length else bif v.kind == 5 then min v.keys.length v.l.length else 0

theorem lenV_eq (v : Val) : lenV v = (lenN v : Int) := by
  unfold lenV lenN
  cases v.kind == 4 <;> cases v.kind == 5 <;> simp only [cond_true, cond_false] <;> try rfl
  by_cases h : v.keys.length < v.l.length
  · rw [decide_eq_true (by omega), Nat.min_eq_left (by omega)]; rfl
  · rw [decide_eq_false (by omega), Nat.min_eq_right (by omega)]; rfl

theorem lenN_le (v : Val) : lenN v ≤ v.l.length := by
  unfold lenN
  cases v.kind == 4 <;> cases v.kind == 5 <;> simp only [cond_true, cond_false] <;> omega

end Go.Proofs.YtjmlnjjinhmanaaGreatDoor

/-
  WHETHER TWO VALUES ARE THE SAME (the document's 'Same'): what the code computes, whatever the two values are.
-/

namespace Go.Proofs.YtjmlnjjinhmanaaGreatDoor
open Go.Eng

set_option maxRecDepth 100000

def hs12 (a b : Val) : Obs Pl := [(4, .box false (cV b)), (3, .box false (cV a))]
def s12 (a b : Val) (m : Bool) (t : Nat) (i : Int) : St Pl := mkS 101 [(2, .bool m), (3, .ptr 3 0), (4, .ptr 4 0), (6, .bool false), (t, dI i)] (hs12 a b)
def r12 (a b : Val) (m : Bool) : St Pl := mkS 101 [(2, .bool m), (3, .ptr 3 0), (4, .ptr 4 0), (6, .bool false)] (hs12 a b)

def pSame (n : Nat) : List (D Pl) → Option (Bool × D Pl)
  | [d, e, .bool m] => match asV d, asV e with
    | some a, some b => some (Nat.blt (vsz a) n, .bool (sameV a b m))
    | _, _ => none
  | _ => none

def L12 (n : Nat) : LK Pl := fun rid S => bif Nat.beq rid 4 then (match getT S.tm 2, getT S.tm 3, getT S.tm 4, getT S.tm 6, getT S.tm 7, S.hs with
  | .bool m, .ptr 3 0, .ptr 4 0, .bool false, .int .i64 (.ofNat 0), [(4, .box false cb), (3, .box false ca)] => (match exV ca, exV cb with
    | some a, some b => some (Nat.beq S.tm.length 101 && (Nat.beq a.keys.length b.keys.length && Nat.ble a.keys.length big), .ite (keysEq a b) (.leaf (.exit 0) (r12 a b m)) (.leaf .ret (r12 a b m)))
    | _, _ => none)
  | _, _, _, _, _, _ => none) else bif Nat.beq rid 9 then (match getT S.tm 2, getT S.tm 3, getT S.tm 4, getT S.tm 6, getT S.tm 8, S.hs with
  | .bool m, .ptr 3 0, .ptr 4 0, .bool false, .int .i64 (.ofNat 0), [(4, .box false cb), (3, .box false ca)] => (match exV ca, exV cb with
    | some a, some b => some (Nat.beq S.tm.length 101 && (Nat.beq a.l.length b.l.length && (Nat.ble a.l.length big && Nat.ble (vsz a) n)), .ite (elemsEq a b m) (.leaf (.exit 2) (r12 a b m)) (.leaf .ret (r12 a b m)))
    | _, _ => none)
  | _, _, _, _, _, _ => none) else none

theorem b12_1 (a b : Val) (m : Bool) (i : Nat) : evC tell0 noTL noL 1 (loopAt 37 0) [2,3,4,6,7] (s12 a b m 7 i) =
    bif decide ((i : Int) < (a.keys.length : Int)) then (bif (true && decide ((i : Int) < (a.keys.length : Int)) || false) then (bif (true && decide ((i : Int) < (b.keys.length : Int)) || false) then
      (bif !(a.keys.getD i [] == b.keys.getD i []) then some (.ret, s12 a b m 7 i) else some (.normal, s12 a b m 7 (IntKind.i64.wrap ((i : Int) + 1)))) else none) else none) else some (.exit 0, s12 a b m 7 i) := by kernel_rfl

theorem b12_2 (a b : Val) (m : Bool) (n i : Nat) : evC (tell 37 (pSame n) tell0) noTL noL 1 (loopAt 37 1) [2,3,4,6,8] (s12 a b m 8 i) =
    bif decide ((i : Int) < (a.l.length : Int)) then (bif (true && decide ((i : Int) < (a.l.length : Int)) || false) then (bif (true && decide ((i : Int) < (b.l.length : Int)) || false) then
      (bif Nat.blt (vsz (etaV (a.l.getD i default))) n then (bif !(sameV (etaV (a.l.getD i default)) (etaV (b.l.getD i default)) m) then some (.ret, s12 a b m 8 i) else some (.normal, s12 a b m 8 (IntKind.i64.wrap ((i : Int) + 1)))) else none) else none) else none) else some (.exit 2, s12 a b m 8 i) := by kernel_rfl

theorem e12 (a b : Val) (m : Bool) (n : Nat) : evF (tell 37 (pSame n) tell0) noTL (L12 n) 0 Tryz.f37 [.agg (cV a), .agg (cV b), .bool m] =
    bif c12 a b m then some (.bool false) else (bif (true && (Nat.beq a.keys.length b.keys.length && Nat.ble a.keys.length big)) then (bif keysEq (etaV a) (etaV b) then
      (bif (true && (Nat.beq a.l.length b.l.length && (Nat.ble a.l.length big && Nat.ble (vsz (etaV a)) n))) then (bif elemsEq (etaV a) (etaV b) m then some (.bool true) else some (.bool false)) else none) else some (.bool false)) else none) := by kernel_rfl

theorem ids12 : (loopsAt 37).length = 2 ∧ firstId (loopAt 37 0) = 4 ∧ firstId (loopAt 37 1) = 9 ∧ loopsOf (loopAt 37 0) = [] ∧ loopsOf (loopAt 37 1) = [] := ⟨by kernel_rfl, by kernel_rfl, by kernel_rfl, by kernel_rfl, by kernel_rfl⟩

theorem loop12_1 (a b : Val) (m : Bool) (hl : a.keys.length = b.keys.length) (hb : a.keys.length ≤ big) :
    GoesTo (.loop (loopAt 37 0)) (s12 a b m 7 0) (pickR (.ite (keysEq a b) (.leaf (.exit 0) (r12 a b m)) (.leaf .ret (r12 a b m)))).1 (pickR (.ite (keysEq a b) (.leaf (.exit 0) (r12 a b m)) (.leaf .ret (r12 a b m)))).2 := by
  have hno := noLoops (L := noL) ids12.2.2.2.1
  have hr : ∀ i : Int, maskS (keepOf [2, 3, 4, 6]) (s12 a b m 7 i) = r12 a b m := fun i => by kernel_rfl
  have hstep : ∀ i : Nat, i < a.keys.length → evC tell0 noTL noL 1 (loopAt 37 0) [2,3,4,6,7] (s12 a b m 7 i) = bif !(a.keys.getD i [] == b.keys.getD i []) then some (.ret, s12 a b m 7 i) else some (.normal, s12 a b m 7 ((i + 1 : Nat) : Int)) := by
    intro i hi
    rw [b12_1, wrap_nat (show i ≤ big by omega), decide_eq_true (show (i : Int) < (a.keys.length : Int) by omega), decide_eq_true (show (i : Int) < (b.keys.length : Int) by omega)]
    rfl
  refine loop_search (Sf := fun i => s12 a b m 7 i) (n := a.keys.length) (p := fun i => a.keys.getD i [] == b.keys.getD i []) (by simp) (by simp) (fun i hi hp => ?_) (fun i hi hp => ?_) ?_
  · refine goes_of (tell0_ok _) (noTL_ok _ _) hno ((hstep i hi).trans ?_)
    have hp : (a.keys.getD i [] == b.keys.getD i []) = true := hp
    rw [hp]; rfl
  · have hp : (a.keys.getD i [] == b.keys.getD i []) = false := hp
    have := (goes_of (tell0_ok _) (noTL_ok _ _) hno ((hstep i hi).trans (show _ = some (.ret, s12 a b m 7 i) by rw [hp]; rfl))).post (keepOf [2, 3, 4, 6])
    rwa [hr] at this
  · have := (goes_of (tell0_ok _) (noTL_ok _ _) hno ((b12_1 a b m a.keys.length).trans (show _ = some (.exit 0, s12 a b m 7 a.keys.length) by rw [decide_eq_false (by omega)]; rfl))).post (keepOf [2, 3, 4, 6])
    rwa [hr] at this

theorem pSame_ok {n : Nat} (ih : ∀ a b m, vsz a < n → Snd 37 [.agg (cV a), .agg (cV b), .bool m] (.bool (sameV a b m))) : TOk (tell 37 (pSame n) tell0) := by
  refine tell_ok (fun ds b d h hb => ?_) (tell0_ok _)
  unfold pSame at h
  split at h
  · split at h
    · rename_i h1 h2
      simp only [Option.some.injEq, Prod.mk.injEq] at h
      obtain ⟨rfl, rfl⟩ := h
      exact (ih _ _ _ (by have h := hb; simp only [Nat.blt_eq] at h; omega)).pre (.cons (asV_rdle h1) (.cons (asV_rdle h2) (.cons (RDle.refl _) .nil)))
    · simp at h
  · simp at h

theorem loop12_2 (a b : Val) (m : Bool) (n : Nat) (hT : TOk (tell 37 (pSame n) tell0)) (hl : a.l.length = b.l.length) (hb : a.l.length ≤ big) (hn : vsz a ≤ n) :
    GoesTo (.loop (loopAt 37 1)) (s12 a b m 8 0) (pickR (.ite (elemsEq a b m) (.leaf (.exit 2) (r12 a b m)) (.leaf .ret (r12 a b m)))).1 (pickR (.ite (elemsEq a b m) (.leaf (.exit 2) (r12 a b m)) (.leaf .ret (r12 a b m)))).2 := by
  have hno := noLoops (L := noL) ids12.2.2.2.2
  have hr : ∀ i : Int, maskS (keepOf [2, 3, 4, 6]) (s12 a b m 8 i) = r12 a b m := fun i => by kernel_rfl
  have hstep : ∀ i : Nat, i < a.l.length → evC (tell 37 (pSame n) tell0) noTL noL 1 (loopAt 37 1) [2,3,4,6,8] (s12 a b m 8 i) = bif !(sameV (a.l.getD i default) (b.l.getD i default) m) then some (.ret, s12 a b m 8 i) else some (.normal, s12 a b m 8 ((i + 1 : Nat) : Int)) := by
    intro i hi
    have hsz := vsz_elem (v := a) (getD_mem (d := default) hi)
    have hlt : Nat.blt (vsz (a.l.getD i default)) n = true := by rw [Nat.blt_eq]; omega
    rw [b12_2, wrap_nat (show i ≤ big by omega), decide_eq_true (show (i : Int) < (a.l.length : Int) by omega), decide_eq_true (show (i : Int) < (b.l.length : Int) by omega), etaV_eq, etaV_eq, hlt]
    rfl
  refine loop_search (Sf := fun i => s12 a b m 8 i) (n := a.l.length) (p := fun i => sameV (a.l.getD i default) (b.l.getD i default) m) (by simp) (by simp) (fun i hi hp => ?_) (fun i hi hp => ?_) ?_
  · refine goes_of hT (noTL_ok _ _) hno ((hstep i hi).trans ?_)
    have hp : sameV (a.l.getD i default) (b.l.getD i default) m = true := hp
    rw [hp]; rfl
  · have hp : sameV (a.l.getD i default) (b.l.getD i default) m = false := hp
    have := (goes_of hT (noTL_ok _ _) hno ((hstep i hi).trans (show _ = some (.ret, s12 a b m 8 i) by rw [hp]; rfl))).post (keepOf [2, 3, 4, 6])
    rwa [hr] at this
  · have := (goes_of hT (noTL_ok _ _) hno ((b12_2 a b m n a.l.length).trans (show _ = some (.exit 2, s12 a b m 8 a.l.length) by rw [decide_eq_false (by omega)]; rfl))).post (keepOf [2, 3, 4, 6])
    rwa [hr] at this

theorem L12_ok {n : Nat} (hT : TOk (tell 37 (pSame n) tell0)) : ∀ i, i < (loopsAt 37).length → LoopOk X0 (L12 n) (loopAt 37 i) := by
  intro i hi S b r h hb
  rw [ids12.1] at hi
  match i, hi with
  | 0, _ =>
    rw [ids12.2.1] at h
    have h : (L12 n) 4 S = some (b, r) := h
    simp only [L12, show Nat.beq 4 4 = true from rfl, cond_true] at h
    split at h
    · split at h
      · rename_i a' b' hca hcb
        simp only [Option.some.injEq, Prod.mk.injEq] at h
        obtain ⟨rfl, rfl⟩ := h
        simp only [Bool.and_eq_true, Nat.beq_eq_true_eq, Nat.ble_eq] at hb
        obtain ⟨hlen, hl, hbig⟩ := hb
        obtain rfl := exV_eq hca
        obtain rfl := exV_eq hcb
        refine Goes.pre (keepOf [2, 3, 4, 6, 7]) ?_
        have := mask_mkS (S := S) (n := 101) (hs := [(4, .box false (cV b')), (3, .box false (cV a'))]) (l := [(2, .bool _), (3, .ptr 3 0), (4, .ptr 4 0), (6, .bool false), (7, dI 0)]) (Nat.eq_of_beq_eq_true hlen) (by assumption) (by
          intro x hx
          simp only [List.mem_cons, List.not_mem_nil, or_false] at hx
          rcases hx with rfl | rfl | rfl | rfl | rfl <;> assumption)
        have this' : maskS (keepOf [2, 3, 4, 6, 7]) S = s12 a' b' _ 7 0 := this
        rw [this']
        exact loop12_1 a' b' _ (Nat.eq_of_beq_eq_true hl) hbig
      · simp at h
    · simp at h
  | 1, _ =>
    rw [ids12.2.2.1] at h
    have h : (L12 n) 9 S = some (b, r) := h
    simp only [L12, show Nat.beq 9 4 = false from rfl, show Nat.beq 9 9 = true from rfl, cond_true, cond_false] at h
    split at h
    · split at h
      · rename_i a' b' hca hcb
        simp only [Option.some.injEq, Prod.mk.injEq] at h
        obtain ⟨rfl, rfl⟩ := h
        simp only [Bool.and_eq_true, Nat.beq_eq_true_eq, Nat.ble_eq] at hb
        obtain ⟨hlen, hl, hbig, hsz⟩ := hb
        obtain rfl := exV_eq hca
        obtain rfl := exV_eq hcb
        refine Goes.pre (keepOf [2, 3, 4, 6, 8]) ?_
        have := mask_mkS (S := S) (n := 101) (hs := [(4, .box false (cV b')), (3, .box false (cV a'))]) (l := [(2, .bool _), (3, .ptr 3 0), (4, .ptr 4 0), (6, .bool false), (8, dI 0)]) (Nat.eq_of_beq_eq_true hlen) (by assumption) (by
          intro x hx
          simp only [List.mem_cons, List.not_mem_nil, or_false] at hx
          rcases hx with rfl | rfl | rfl | rfl | rfl <;> assumption)
        have this' : maskS (keepOf [2, 3, 4, 6, 8]) S = s12 a' b' _ 8 0 := this
        rw [this']
        exact loop12_2 a' b' _ n hT (Nat.eq_of_beq_eq_true hl) hbig hsz
      · simp at h
    · simp at h

theorem same_n : ∀ n a b m, vsz a < n → Snd 37 [.agg (cV a), .agg (cV b), .bool m] (.bool (sameV a b m)) := by
  intro n
  induction n with
  | zero => intro a b m h; omega
  | succ n ih =>
    intro a b m hlt
    have hT := pSame_ok ih
    refine SoundAt.rooms fun hroom => snd_fn (L := L12 n) (n := 0) hT (noTL_ok _ _) (fn := Tryz.f37) (by kernel_rfl) (loops_of (fn := Tryz.f37) (by kernel_rfl) (L12_ok hT)) ((e12 a b m n).trans ?_)
    have h1 : Room _ (.agg (cV a)) := hroom _ (by simp)
    have hk : a.keys.length * 16 ≤ big := h1 (.pl (pStrs a.keys) .any) (by simp [cV])
    have hl : a.l.length * 104 ≤ big := h1 (.pl (pVals a.l) .any) (by simp [cV])
    rw [sameV_eq, etaV_eq, etaV_eq]
    cases hc : c12 a b m with
    | true => rfl
    | false =>
      obtain ⟨g1, g2⟩ := c12_len hc
      have e1 : Nat.beq a.keys.length b.keys.length = true := by rw [g2]; exact Nat.beq_refl _
      have e2 : Nat.beq a.l.length b.l.length = true := by rw [g1]; exact Nat.beq_refl _
      have e3 : Nat.ble a.keys.length big = true := by rw [Nat.ble_eq]; omega
      have e4 : Nat.ble a.l.length big = true := by rw [Nat.ble_eq]; omega
      have e5 : Nat.ble (vsz a) n = true := by rw [Nat.ble_eq]; omega
      rw [e1, e2, e3, e4, e5]
      cases keysEq a b <;> cases elemsEq a b m <;> rfl

/-- 'Same', whatever the values. -/
theorem same_sound (a b : Val) (m : Bool) : Snd 37 [.agg (cV a), .agg (cV b), .bool m] (.bool (sameV a b m)) := same_n _ a b m (Nat.lt_succ_self _)

def pSameA : List (D Pl) → Option (Bool × D Pl)
  | [d, e, .bool m] => match asV d, asV e with
    | some a, some b => some (true, .bool (sameV a b m))
    | _, _ => none
  | _ => none

def tSame (R : Eng.Told Pl) : Eng.Told Pl := tell 37 pSameA R
theorem tSame_ok {R : Eng.Told Pl} (hR : TOk R) : TOk (tSame R) := by
  refine tell_ok (fun ds b d h hb => ?_) hR
  unfold pSameA at h
  split at h
  · split at h
    · rename_i h1 h2
      simp only [Option.some.injEq, Prod.mk.injEq] at h
      obtain ⟨_, rfl⟩ := h
      exact (same_sound _ _ _).pre (.cons (asV_rdle h1) (.cons (asV_rdle h2) (.cons (RDle.refl _) .nil)))
    · simp at h
  · simp at h

end Go.Proofs.YtjmlnjjinhmanaaGreatDoor

/-
  LISTS OF NAMES: whether two are the same: what the code computes.
-/

namespace Go.Proofs.YtjmlnjjinhmanaaGreatDoor
open Go.Eng

set_option maxRecDepth 100000

-- slices.Equal of names

def s49 (a b : List Str) (i : Int) : St Pl := mkS 26 [(0, .pl (pStrs a) .any), (1, .pl (pStrs b) .any), (4, .bool false), (12, dI a.length), (13, dI i)] []
def r49 (a b : List Str) : St Pl := mkS 26 [(0, .pl (pStrs a) .any), (1, .pl (pStrs b) .any), (4, .bool false)] []

theorem b49 (a b : List Str) (i : Nat) : evC tell0 noTL noL 1 (loopAt 39 0) [0, 1, 4, 12, 13] (s49 a b i) =
    lt_ i a.length (ix_ i a.length (ix_ i b.length (bif !(a.getD i [] == b.getD i []) then some (.ret, s49 a b i) else some (.normal, s49 a b (IntKind.i64.wrap ((i : Int) + 1)))))) (some (.exit 0, s49 a b i)) := by kernel_rfl

theorem ids49 : (loopsAt 39).length = 1 ∧ firstId (loopAt 39 0) = 4 ∧ loopsOf (loopAt 39 0) = [] := ⟨by kernel_rfl, by kernel_rfl, by kernel_rfl⟩

def LS49 (S : St Pl) : Option (Bool × LR Pl) := match seenS 26 [0, 1, 4, 12, 13] S with
  | some ([.pl ⟨.strs, a⟩ .any, .pl ⟨.strs, b⟩ .any, .bool false, .int .i64 n, .int .i64 (.ofNat 0)], []) =>
    some (n == (a.length : Int) && (Nat.beq a.length b.length && Nat.ble a.length big), .ite ((List.range a.length).all fun i => a.getD i [] == b.getD i []) (.leaf (.exit 0) (r49 a b)) (.leaf .ret (r49 a b)))
  | _ => none

theorem LS49_ok : SOk X0 (loopAt 39 0) LS49 := by
  intro S c r h hc
  unfold LS49 at h
  split at h
  · rename_i a b n hs
    simp only [Option.some.injEq, Prod.mk.injEq] at h
    obtain ⟨rfl, rfl⟩ := h
    simp only [Bool.and_eq_true, Nat.ble_eq, beq_iff_eq] at hc
    obtain ⟨rfl, hl, hb⟩ := hc
    have hl := Nat.eq_of_beq_eq_true hl
    refine Goes.pre (keepOf [0, 1, 4, 12, 13]) ?_
    rw [seenS_mask hs]
    have hstep : ∀ i : Nat, i < a.length → evC tell0 noTL noL 1 (loopAt 39 0) [0, 1, 4, 12, 13] (s49 a b i) = bif !(a.getD i [] == b.getD i []) then some (.ret, s49 a b i) else some (.normal, s49 a b ((i + 1 : Nat) : Int)) := by
      intro i hi
      rw [b49, lt_t hi, ix_t hi, ix_t (by omega), wrap_nat (show i ≤ big by omega)]
    refine loop_search (Sf := fun i => s49 a b i) (n := a.length) (p := fun i => a.getD i [] == b.getD i []) (by simp) (by simp) (fun i hi hp => ?_) (fun i hi hp => ?_) ?_
    · have hp : (a.getD i [] == b.getD i []) = true := hp
      exact goes_of (tell0_ok _) (noTL_ok _ _) (noLoops ids49.2.2) ((hstep i hi).trans (by rw [hp]; rfl))
    · have hp : (a.getD i [] == b.getD i []) = false := hp
      exact (goes_of (tell0_ok _) (noTL_ok _ _) (noLoops ids49.2.2) ((hstep i hi).trans (show _ = some (.ret, s49 a b i) by rw [hp]; rfl))).post (keepOf [0, 1, 4])
    · exact (goes_of (tell0_ok _) (noTL_ok _ _) (noLoops ids49.2.2) ((b49 a b a.length).trans (show _ = some (.exit 0, s49 a b a.length) by rw [lt_f (by omega)]))).post (keepOf [0, 1, 4])
  · simp at h

theorem e49 (a b : List Str) : evF tell0 noTL (atL 4 LS49 noL) 1 Tryz.f39 [.pl (pStrs a) .any, .pl (pStrs b) .any] =
    bif ((a.length : Int) != (b.length : Int)) then some (.bool false) else ck_ (((a.length : Int) == (a.length : Int)) && (Nat.beq a.length b.length && Nat.ble a.length big)) (bif (List.range a.length).all (fun i => a.getD i [] == b.getD i []) then some (.bool true) else some (.bool false)) := by kernel_rfl

theorem equal_sound (a b : List Str) : Snd 39 [.pl (pStrs a) .any, .pl (pStrs b) .any] (.bool (a == b)) := by
  refine SoundAt.rooms fun hroom => snd_fn (n := 1) (tell0_ok _) (noTL_ok _ _) (fn := Tryz.f39) (by kernel_rfl) (loops_of (fn := Tryz.f39) (by kernel_rfl) (loops_1 ids49.1 (atL_ok (fun _ => LS49_ok) fun h => absurd ids49.2.1 h))) ((e49 a b).trans ?_)
  have ha : a.length * 16 ≤ big := hroom (.pl (pStrs a) .any) (by simp)
  by_cases hl : a.length = b.length
  · rw [all_beq [] a b hl, show ((a.length : Int) != (b.length : Int)) = false by rw [hl]; simp, ck_t (by rw [beq_self_eq_true, hl, Nat.beq_refl, ble_t (by omega)]; rfl)]
    cases a == b <;> rfl
  · have h1 : ((a.length : Int) != (b.length : Int)) = true := by rw [bne_iff_ne]; omega
    have h2 : (a == b) = false := by rw [beq_eq_false_iff_ne]; intro h; exact hl (by rw [h])
    rw [h1, h2]; rfl

def pEqual : List (D Pl) → Option (Bool × D Pl)
  | [d, e] => match asL .strs d, asL .strs e with
    | some a, some b => some (true, .bool ((a : List Str) == b))
    | _, _ => none
  | _ => none

theorem pEqual_ok : ∀ ds b d, pEqual ds = some (b, d) → b = true → Snd 39 ds d := by
  intro ds b d h hb
  unfold pEqual at h
  split at h
  · split at h
    · rename_i h1 h2
      simp only [Option.some.injEq, Prod.mk.injEq] at h
      obtain ⟨_, rfl⟩ := h
      exact (equal_sound _ _).pre (.cons (asL_rdle h1) (.cons (asL_rdle h2) .nil))
    · simp at h
  · simp at h

end Go.Proofs.YtjmlnjjinhmanaaGreatDoor

/-
  WHETHER TWO VALUES ARE THE SAME (the program's 'Same'): what the code computes, whatever the two values are.
-/

namespace Go.Proofs.YtjmlnjjinhmanaaGreatDoor
open Go.Eng

set_option maxRecDepth 100000

/-- a contract for two values -/
def pvv (f : Val → Val → Bool × D Pl) : List (D Pl) → Option (Bool × D Pl)
  | [d, e] => match asV d, asV e with
    | some a, some b => some (f a b)
    | _, _ => none
  | _ => none

theorem pvv_ok {g : FuncId} {f : Val → Val → Bool × D Pl} (h : ∀ a b, (f a b).1 = true → Snd g [.agg (cV a), .agg (cV b)] (f a b).2) : ∀ ds b d, pvv f ds = some (b, d) → b = true → Snd g ds d := by
  intro ds b d hp hb
  unfold pvv at hp
  split at hp
  · split at hp
    · rename_i h1 h2
      simp only [Option.some.injEq] at hp
      have h3 := h _ _ (by rw [hp]; exact hb)
      rw [hp] at h3
      exact h3.pre (.cons (asV_rdle h1) (.cons (asV_rdle h2) .nil))
    · simp at hp
  · simp at hp

-- flat

def m47 (a b : Val) : Bool := bif (bif (bif (bif (bif (a.kind == b.kind) then a.i == b.i else false) then a.s == b.s else false) then (a.tk == b.tk && (a.tof == b.tof && true)) else false) then a.sec == b.sec else false) then ((a.l.length : Int) == (b.l.length : Int)) else false
def flatV (a b : Val) : Bool := m47 a b && (a.keys == b.keys)

theorem e47 (a b : Val) : ev (tell 39 pEqual tell0) noTL 1 67 [.agg (cV a), .agg (cV b)] = bif (m47 a b == true) then some (.bool (a.keys == b.keys)) else some (.bool false) := by kernel_rfl

theorem flat_sound (a b : Val) : Snd 67 [.agg (cV a), .agg (cV b)] (.bool (flatV a b)) := by
  refine snd_of (tell_ok pEqual_ok (tell0_ok _)) (noTL_ok _ _) ((e47 a b).trans ?_)
  unfold flatV
  cases m47 a b <;> rfl

-- slices.EqualFunc with 'Same'

def s48 (a b : List Val) (i : Int) : St Pl := mkS 32 [(1, .pl (pVals b) .any), (2, .fn 54 []), (6, .bool false), (15, .pl (pVals a) .any), (16, dI a.length), (17, dI i)] []
def r48 (b : List Val) : St Pl := mkS 32 [(1, .pl (pVals b) .any), (2, .fn 54 []), (6, .bool false)] []
def tVsm (n : Nat) : Eng.Told Pl := tell 54 (pvv fun a b => (Nat.blt (vsz a) n, .bool (sameV a b true))) tell0

theorem b48 (a b : List Val) (n i : Nat) : evD (tVsm n) noTL noL 1 (loopAt 68 0) [1, 2, 6, 15, 16, 17] [8, 9] (s48 a b i) =
    lt_ i a.length (ix_ i a.length (ix_ i b.length (ck_ (Nat.blt (vsz (etaV (a.getD i default))) n) (bif !(sameV (etaV (a.getD i default)) (etaV (b.getD i default)) true) then some (.ret, s48 a b i) else some (.normal, s48 a b (IntKind.i64.wrap ((i : Int) + 1))))))) (some (.exit 0, s48 a b i)) := by kernel_rfl

theorem ids48 : (loopsAt 68).length = 1 ∧ firstId (loopAt 68 0) = 4 ∧ loopsOf (loopAt 68 0) = [] := ⟨by kernel_rfl, by kernel_rfl, by kernel_rfl⟩

def LS48 (n : Nat) (S : St Pl) : Option (Bool × LR Pl) := match seenS 32 [1, 2, 6, 15, 16, 17] S with
  | some ([.pl ⟨.vals, b⟩ .any, .fn 54 [], .bool false, .pl ⟨.vals, a⟩ .any, .int .i64 k, .int .i64 (.ofNat 0)], []) =>
    some (k == (a.length : Int) && (Nat.beq a.length b.length && (Nat.ble a.length big && Nat.blt (vszs a) n)), .ite ((List.range a.length).all fun i => sameV (a.getD i default) (b.getD i default) true) (.leaf (.exit 0) (r48 b)) (.leaf .ret (r48 b)))
  | _ => none

theorem LS48_ok {n : Nat} (hT : TOk (tVsm n)) : SOk X0 (loopAt 68 0) (LS48 n) := by
  intro S c r h hc
  unfold LS48 at h
  split at h
  · rename_i b a k hs
    simp only [Option.some.injEq, Prod.mk.injEq] at h
    obtain ⟨rfl, rfl⟩ := h
    simp only [Bool.and_eq_true, Nat.ble_eq, Nat.blt_eq, beq_iff_eq] at hc
    obtain ⟨rfl, hl, hb, hsz⟩ := hc
    have hl := Nat.eq_of_beq_eq_true hl
    refine Goes.pre (keepOf [1, 2, 6, 15, 16, 17]) ?_
    rw [seenS_mask hs]
    have hstep : ∀ i : Nat, i < a.length → evD (tVsm n) noTL noL 1 (loopAt 68 0) [1, 2, 6, 15, 16, 17] [8, 9] (s48 a b i) = bif !(sameV (a.getD i default) (b.getD i default) true) then some (.ret, s48 a b i) else some (.normal, s48 a b ((i + 1 : Nat) : Int)) := by
      intro i hi
      have := vszs_mem (getD_mem (d := default) hi)
      rw [b48, lt_t hi, ix_t hi, ix_t (by omega), etaV_eq, etaV_eq, ck_t (blt_t (by omega)), wrap_nat (show i ≤ big by omega)]
    refine loop_search (Sf := fun i => s48 a b i) (n := a.length) (p := fun i => sameV (a.getD i default) (b.getD i default) true) (by simp) (by simp) (fun i hi hp => ?_) (fun i hi hp => ?_) ?_
    · have hp : sameV (a.getD i default) (b.getD i default) true = true := hp
      exact goes_ofD hT (noTL_ok _ _) (noLoops ids48.2.2) ((hstep i hi).trans (by rw [hp]; rfl))
    · have hp : sameV (a.getD i default) (b.getD i default) true = false := hp
      exact (goes_ofD hT (noTL_ok _ _) (noLoops ids48.2.2) ((hstep i hi).trans (show _ = some (.ret, s48 a b i) by rw [hp]; rfl))).post (keepOf [1, 2, 6])
    · exact (goes_ofD hT (noTL_ok _ _) (noLoops ids48.2.2) ((b48 a b n a.length).trans (show _ = some (.exit 0, s48 a b a.length) by rw [lt_f (by omega)]))).post (keepOf [1, 2, 6])
  · simp at h

theorem e48 (a b : List Val) (n : Nat) : evF (tVsm n) noTL (atL 4 (LS48 n) noL) 1 Tryz.f68 [.pl (pVals a) .any, .pl (pVals b) .any, .fn 54 []] =
    bif ((a.length : Int) != (b.length : Int)) then some (.bool false) else ck_ (((a.length : Int) == (a.length : Int)) && (Nat.beq a.length b.length && (Nat.ble a.length big && Nat.blt (vszs a) n))) (bif (List.range a.length).all (fun i => sameV (a.getD i default) (b.getD i default) true) then some (.bool true) else some (.bool false)) := by kernel_rfl

def eqVs (a b : List Val) : Bool := ((a.length : Int) == (b.length : Int)) && sameVs a b true

theorem eqfunc_n {n : Nat} (hT : TOk (tVsm n)) (a b : List Val) (hn : vszs a < n) : Snd 68 [.pl (pVals a) .any, .pl (pVals b) .any, .fn 54 []] (.bool (eqVs a b)) := by
  refine SoundAt.rooms fun hroom => snd_fn (n := 1) hT (noTL_ok _ _) (fn := Tryz.f68) (by kernel_rfl) (loops_of (fn := Tryz.f68) (by kernel_rfl) (loops_1 ids48.1 (atL_ok (fun _ => LS48_ok hT) fun h => absurd ids48.2.1 h))) ((e48 a b n).trans ?_)
  have ha : a.length * 104 ≤ big := hroom (.pl (pVals a) .any) (by simp)
  unfold eqVs
  by_cases hl : a.length = b.length
  · rw [show ((a.length : Int) != (b.length : Int)) = false by rw [hl]; simp, ck_t (by rw [beq_self_eq_true, hl, Nat.beq_refl, ble_t (by omega), blt_t hn]; rfl), all_same true a b hl, show ((a.length : Int) == (b.length : Int)) = true by rw [hl]; simp]
    cases sameVs a b true <;> rfl
  · rw [show ((a.length : Int) != (b.length : Int)) = true by rw [bne_iff_ne]; omega, show ((a.length : Int) == (b.length : Int)) = false by rw [beq_eq_false_iff_ne]; omega]
    rfl

def pEqF (n : Nat) : List (D Pl) → Option (Bool × D Pl)
  | [d, e, .fn 54 []] => match asL .vals d, asL .vals e with
    | some a, some b => some (Nat.blt (vszs a) n, .bool (eqVs a b))
    | _, _ => none
  | _ => none

theorem pEqF_ok {n : Nat} (hT : TOk (tVsm n)) : ∀ ds b d, pEqF n ds = some (b, d) → b = true → Snd 68 ds d := by
  intro ds b d h hb
  unfold pEqF at h
  split at h
  · split at h
    · rename_i h1 h2
      simp only [Option.some.injEq, Prod.mk.injEq] at h
      obtain ⟨rfl, rfl⟩ := h
      simp only [Nat.blt_eq] at hb
      exact (eqfunc_n hT _ _ (by omega)).pre (.cons (asL_rdle h1) (.cons (asL_rdle h2) (.cons (RDle.refl _) .nil)))
    · simp at h
  · simp at h

-- Same

theorem e43 (a b : Val) (n : Nat) : evF (tell 67 (pvv fun a b => (true, .bool (flatV a b))) (tell 68 (pEqF n) tell0)) noTL noL 0 Tryz.f54 [.agg (cV a), .agg (cV b)] =
    bif (flatV (etaV a) (etaV b) == true) then ck_ (Nat.blt (vszs a.l) n) (some (.bool (eqVs a.l b.l))) else some (.bool false) := by kernel_rfl

theorem vsame_eq (a b : Val) : sameV a b true = (flatV (etaV a) (etaV b) && eqVs a.l b.l) := by
  rw [sameV_eq]
  have key : (!(c12 a b true)) = (m47 (etaV a) (etaV b) && ((a.keys.length : Int) == (b.keys.length : Int))) := by
    unfold c12 m47 etaV
    simp only [bne, cond_true]
    cases a.kind == b.kind <;> cases a.i == b.i <;> cases a.s == b.s <;> cases a.tk == b.tk <;> cases a.tof == b.tof <;> cases a.sec == b.sec <;> cases ((a.l.length : Int) == (b.l.length : Int)) <;> cases ((a.keys.length : Int) == (b.keys.length : Int)) <;> rfl
  cases hc : c12 a b true with
  | true =>
    rw [hc] at key
    unfold flatV
    cases hm : m47 (etaV a) (etaV b) with
    | false => rfl
    | true =>
      rw [hm] at key
      have hk : ((a.keys.length : Int) == (b.keys.length : Int)) = false := by simpa using key.symm
      have : ((etaV a).keys == (etaV b).keys) = false := by
        rw [beq_eq_false_iff_ne]
        intro h
        have h : a.keys = b.keys := h
        rw [h] at hk
        simp at hk
      rw [this]; rfl
  | false =>
    rw [hc] at key
    obtain ⟨h1, h2⟩ := c12_len hc
    have hm : m47 (etaV a) (etaV b) = true := by
      cases hm : m47 (etaV a) (etaV b) with
      | true => rfl
      | false => rw [hm] at key; simp at key
    unfold flatV keysEq elemsEq eqVs
    rw [hm, all_beq [] _ _ h2, all_same true _ _ h1, show ((a.l.length : Int) == (b.l.length : Int)) = true by rw [h1]; simp]
    rfl

theorem vsame_n : ∀ n a b, vsz a < n → Snd 54 [.agg (cV a), .agg (cV b)] (.bool (sameV a b true)) := by
  intro n
  induction n with
  | zero => intro a b h; omega
  | succ n ih =>
    intro a b hlt
    have hT : TOk (tVsm n) := tell_ok (pvv_ok fun a b h => ih a b (by simp only [Nat.blt_eq] at h; exact h)) (tell0_ok _)
    have h1 : vszs a.l < n := by
      obtain ⟨k, i, s, l, ks, tk, tof, sec⟩ := a
      simp only [vsz] at hlt
      simp only
      omega
    refine snd_fn (n := 0) (tell_ok (pvv_ok fun a b _ => flat_sound a b) (tell_ok (pEqF_ok hT) (tell0_ok _))) (noTL_ok _ _) (fn := Tryz.f54) (by kernel_rfl) (loops_of (f := 54) (fn := Tryz.f54) (by kernel_rfl) (loops_0 (by kernel_rfl))) ((e43 a b n).trans ?_)
    rw [vsame_eq, ck_t (blt_t h1)]
    cases flatV (etaV a) (etaV b) <;> rfl

theorem vsame_sound (a b : Val) : Snd 54 [.agg (cV a), .agg (cV b)] (.bool (sameV a b true)) := vsame_n _ a b (Nat.lt_succ_self _)

end Go.Proofs.YtjmlnjjinhmanaaGreatDoor

/-
  HOW MUCH A VALUE HAS (the document's 'great'): the calls return, whatever the value.
-/

namespace Go.Proofs.YtjmlnjjinhmanaaGreatDoor
open Go.Eng

set_option maxRecDepth 100000

/-- a contract for one value -/
def p1 (f : Val → Bool × D Pl) : List (D Pl) → Option (Bool × D Pl)
  | [d] => match asV d with
    | some a => some (f a)
    | none => none
  | _ => none

theorem p1_ok {g : FuncId} {f : Val → Bool × D Pl} (h : ∀ v, (f v).1 = true → Snd g [.agg (cV v)] (f v).2) : ∀ ds b d, p1 f ds = some (b, d) → b = true → Snd g ds d := by
  intro ds b d hp hb
  unfold p1 at hp
  split at hp
  · split at hp
    · rename_i ha
      simp only [Option.some.injEq] at hp
      have h1 := h _ (by rw [hp]; exact hb)
      rw [hp] at h1
      exact h1.pre (.cons (asV_rdle ha) .nil)
    · simp at hp
  · simp at hp

/-- for a value and a number -/
def p2 (f : Val → Int → Bool × D Pl) : List (D Pl) → Option (Bool × D Pl)
  | [d, .int .i64 n] => match asV d with
    | some a => some (f a n)
    | none => none
  | _ => none

theorem p2_ok {g : FuncId} {f : Val → Int → Bool × D Pl} (h : ∀ v n, (f v n).1 = true → Snd g [.agg (cV v), dI n] (f v n).2) : ∀ ds b d, p2 f ds = some (b, d) → b = true → Snd g ds d := by
  intro ds b d hp hb
  unfold p2 at hp
  split at hp
  · split at hp
    · rename_i ha
      simp only [Option.some.injEq] at hp
      have h1 := h _ _ (by rw [hp]; exact hb)
      rw [hp] at h1
      exact h1.pre (.cons (asV_rdle ha) (.cons (RDle.refl _) .nil))
    · simp at hp
  · simp at hp

-- great

def mn (y x : Int) : Int := bif (bif false then decide (y > x) else decide (y < x)) then y else x

def s17 (v : Val) (d : Int) (t : Nat) (x i : Int) : St Pl := mkS 65 [(1, dI d), (2, .ptr 2 0), (5, dI x), (t, dI i)] [(2, .box false (cV v))]
def r17 (v : Val) (d : Int) (x : Int) : St Pl := mkS 65 [(1, dI d), (2, .ptr 2 0), (5, dI x)] [(2, .box false (cV v))]
def tG (n : Nat) (G : Val → Int → Int) : Eng.Told Pl := tell 66 (p2 fun v d => (Nat.blt (vsz v) n, dI (G v d))) tell0

def addS (x : Int) (s : Str) : Int := IntKind.i64.wrap (x + IntKind.i64.wrap ((mn 4000 (s.length : Int)).tdiv 4))

theorem b17_1 (v : Val) (d x : Int) (i : Nat) : evC tell0 noTL noL 1 (loopAt 66 0) [1, 2, 5, 6] (s17 v d 6 x i) =
    bif (bif decide ((i : Int) < (v.keys.length : Int)) then decide (x ≤ 600) else false) then ix_ i v.keys.length (some (.normal, s17 v d 6 (addS x (v.keys.getD i [])) (IntKind.i64.wrap ((i : Int) + 1)))) else some (.exit 0, s17 v d 6 x i) := by kernel_rfl

theorem b17_2 (v : Val) (d x : Int) (n : Nat) (G : Val → Int → Int) (i : Nat) : evC (tG n G) noTL noL 1 (loopAt 66 1) [1, 2, 5, 7] (s17 v d 7 x i) =
    bif (bif decide ((i : Int) < (v.l.length : Int)) then decide (x ≤ 600) else false) then ix_ i v.l.length (ck_ (Nat.blt (vsz (etaV (v.l.getD i default))) n)
      (some (.normal, s17 v d 7 (IntKind.i64.wrap (x + G (etaV (v.l.getD i default)) (IntKind.i64.wrap (d - 1)))) (IntKind.i64.wrap ((i : Int) + 1))))) else some (.exit 2, s17 v d 7 x i) := by kernel_rfl

def acc1 (ks : List Str) (x : Int) : Nat → Int
  | 0 => x
  | i + 1 => addS (acc1 ks x i) (ks.getD i [])
def acc2 (G : Val → Int → Int) (d : Int) (l : List Val) (x : Int) : Nat → Int
  | 0 => x
  | i + 1 => IntKind.i64.wrap (acc2 G d l x i + G (l.getD i default) (IntKind.i64.wrap (d - 1)))
def end1 (ks : List Str) (x : Int) : Int := acc1 ks x (ff (fun i => decide (acc1 ks x i ≤ 600)) ks.length)
def end2 (G : Val → Int → Int) (d : Int) (l : List Val) (x : Int) : Int := acc2 G d l x (ff (fun i => decide (acc2 G d l x i ≤ 600)) l.length)

def LS17a (S : St Pl) : Option (Bool × LR Pl) := match seenS 65 [1, 2, 5, 6] S with
  | some ([.int .i64 d, .ptr 2 0, .int .i64 x, .int .i64 (.ofNat 0)], [(2, .box false c)]) => (match exV c with
    | some v => some (Nat.ble v.keys.length big, .leaf (.exit 0) (r17 v d (end1 v.keys x)))
    | none => none)
  | _ => none
def LS17b (n : Nat) (G : Val → Int → Int) (S : St Pl) : Option (Bool × LR Pl) := match seenS 65 [1, 2, 5, 7] S with
  | some ([.int .i64 d, .ptr 2 0, .int .i64 x, .int .i64 (.ofNat 0)], [(2, .box false c)]) => (match exV c with
    | some v => some (Nat.ble v.l.length big && Nat.ble (vsz v) n, .leaf (.exit 2) (r17 v d (end2 G d v.l x)))
    | none => none)
  | _ => none

theorem ids17 : (loopsAt 66).length = 2 ∧ firstId (loopAt 66 0) = 5 ∧ firstId (loopAt 66 1) = 9 ∧ loopsOf (loopAt 66 0) = [] ∧ loopsOf (loopAt 66 1) = [] := ⟨by kernel_rfl, by kernel_rfl, by kernel_rfl, by kernel_rfl, by kernel_rfl⟩

theorem while_t {i n : Nat} {q : Bool} (h : i < n) (hq : q = true) : (bif decide ((i : Int) < (n : Int)) then q else false) = true := by
  rw [decide_eq_true (show (i : Int) < (n : Int) by omega), hq]; rfl
theorem while_f {i n : Nat} {q : Bool} (h : i < n → q = false) : (bif decide ((i : Int) < (n : Int)) then q else false) = false := by
  by_cases hi : i < n
  · rw [decide_eq_true (show (i : Int) < (n : Int) by omega), h hi]; rfl
  · rw [decide_eq_false (show ¬ (i : Int) < (n : Int) by omega)]; rfl

theorem LS17a_ok : SOk X0 (loopAt 66 0) LS17a := by
  intro S b r h hb
  unfold LS17a at h
  split at h
  · rename_i d x c hs
    split at h
    · rename_i v hv
      simp only [Option.some.injEq, Prod.mk.injEq] at h
      obtain ⟨rfl, rfl⟩ := h
      simp only [Nat.ble_eq] at hb
      obtain rfl := exV_eq hv
      refine Goes.pre (keepOf [1, 2, 5, 6]) ?_
      rw [seenS_mask hs]
      refine loop_until (Sf := fun i => s17 v d 6 (acc1 v.keys x i) i) (p := fun i => decide (acc1 v.keys x i ≤ 600)) (S2 := fun i => r17 v d (acc1 v.keys x i)) (by simp) (fun i hi hp => ?_) (fun i hi hp => ?_)
      · refine goes_of (tell0_ok _) (noTL_ok _ _) (noLoops ids17.2.2.2.1) ((b17_1 v d _ i).trans ?_)
        rw [while_t hi hp, ix_t hi, wrap_nat (show i ≤ big by omega)]
        rfl
      · have := (goes_of (tell0_ok _) (noTL_ok _ _) (noLoops ids17.2.2.2.1) ((b17_1 v d _ i).trans (show _ = some (.exit 0, s17 v d 6 (acc1 v.keys x i) i) by rw [while_f hp]; rfl))).post (keepOf [1, 2, 5])
        exact this
    · simp at h
  · simp at h

theorem LS17b_ok {n : Nat} {G : Val → Int → Int} (hT : TOk (tG n G)) : SOk X0 (loopAt 66 1) (LS17b n G) := by
  intro S b r h hb
  unfold LS17b at h
  split at h
  · rename_i d x c hs
    split at h
    · rename_i v hv
      simp only [Option.some.injEq, Prod.mk.injEq] at h
      obtain ⟨rfl, rfl⟩ := h
      simp only [Bool.and_eq_true, Nat.ble_eq] at hb
      obtain ⟨hb, hsz⟩ := hb
      obtain rfl := exV_eq hv
      refine Goes.pre (keepOf [1, 2, 5, 7]) ?_
      rw [seenS_mask hs]
      refine loop_until (Sf := fun i => s17 v d 7 (acc2 G d v.l x i) i) (p := fun i => decide (acc2 G d v.l x i ≤ 600)) (S2 := fun i => r17 v d (acc2 G d v.l x i)) (by simp) (fun i hi hp => ?_) (fun i hi hp => ?_)
      · have hs := vsz_elem (getD_mem (d := default) hi)
        refine goes_of hT (noTL_ok _ _) (noLoops ids17.2.2.2.2) ((b17_2 v d _ n G i).trans ?_)
        rw [while_t hi hp, ix_t hi, etaV_eq, ck_t (blt_t (by omega)), wrap_nat (show i ≤ big by omega)]
        rfl
      · have := (goes_of hT (noTL_ok _ _) (noLoops ids17.2.2.2.2) ((b17_2 v d _ n G i).trans (show _ = some (.exit 2, s17 v d 7 (acc2 G d v.l x i) i) by rw [while_f hp]; rfl))).post (keepOf [1, 2, 5])
        exact this
    · simp at h
  · simp at h

def start17 (v : Val) : Int := IntKind.i64.wrap (IntKind.i64.wrap (1 + IntKind.i64.wrap ((mn 2000 (v.s.length : Int)).tdiv 4)) + mn 700 (v.keys.length : Int))

theorem e17 (v : Val) (d : Int) (n : Nat) (G : Val → Int → Int) : evF (tG n G) noTL (atL 5 LS17a (atL 9 (LS17b n G) noL)) 1 Tryz.f66 [.agg (cV v), dI d] =
    bif d == 0 then some (dI 601) else ck_ (Nat.ble v.keys.length big) (ck_ (Nat.ble v.l.length big && Nat.ble (vsz (etaV v)) n) (some (dI (mn 601 (end2 G d v.l (end1 v.keys (start17 v))))))) := by kernel_rfl

theorem great_n : ∀ n, ∃ G : Val → Int → Int, ∀ v d, vsz v < n → Snd 66 [.agg (cV v), dI d] (dI (G v d)) := by
  intro n
  induction n with
  | zero => exact ⟨fun _ _ => 0, fun v d h => by omega⟩
  | succ n ih =>
    obtain ⟨G, hG⟩ := ih
    refine ⟨fun v d => bif d == 0 then 601 else mn 601 (end2 G d v.l (end1 v.keys (start17 v))), fun v d hv => SoundAt.rooms fun hroom => ?_⟩
    have hT : TOk (tG n G) := tell_ok (p2_ok fun v d h => hG v d (by simp only [Nat.blt_eq] at h; exact h)) (tell0_ok _)
    have h1 : Room _ (.agg (cV v)) := hroom _ (by simp)
    have hl : v.l.length * 104 ≤ big := h1 (.pl (pVals v.l) .any) (by simp [cV])
    have hk : v.keys.length * 16 ≤ big := h1 (.pl (pStrs v.keys) .any) (by simp [cV])
    refine snd_fn (n := 1) hT (noTL_ok _ _) (fn := Tryz.f66) (by kernel_rfl) (loops_of (fn := Tryz.f66) (by kernel_rfl) (loops_2 ids17.1
      (atL_ok (fun _ => LS17a_ok) fun h => absurd ids17.2.1 h) (atL_ok (fun h => absurd (ids17.2.2.1.symm.trans h) (by decide)) fun _ => atL_ok (fun _ => LS17b_ok hT) fun h => absurd ids17.2.2.1 h))) ((e17 v d n G).trans ?_)
    rw [etaV_eq, ck_t (ble_t (by omega)), ck_t (by rw [ble_t (by omega), ble_t (by omega)]; rfl)]
    show _ = some (dI (bif d == 0 then 601 else mn 601 (end2 G d v.l (end1 v.keys (start17 v)))))
    cases d == 0 <;> rfl

theorem great_sound : ∃ G : Val → Int → Int, ∀ v d, Snd 66 [.agg (cV v), dI d] (dI (G v d)) :=
  ⟨fun v d => (great_n (vsz v + 1)).choose v d, fun v d => (great_n (vsz v + 1)).choose_spec v d (Nat.lt_succ_self _)⟩

theorem e6 (v : Val) (G : Val → Int → Int) : ev (tell 66 (p2 fun v d => (true, dI (G v d))) tell0) noTL 1 53 [.agg (cV v)] = some (.bool (decide (G (etaV v) 10 > 600))) := by kernel_rfl

theorem Great_sound : ∃ G : Val → Bool, ∀ v, Snd 53 [.agg (cV v)] (.bool (G v)) := by
  obtain ⟨G, hG⟩ := great_sound
  refine ⟨fun v => decide (G v 10 > 600), fun v => ?_⟩
  have := snd_of (tell_ok (p2_ok fun v d _ => hG v d) (tell0_ok _)) (noTL_ok _ _) (e6 v G)
  rwa [etaV_eq] at this

end Go.Proofs.YtjmlnjjinhmanaaGreatDoor

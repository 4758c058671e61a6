/-
  THE DOCUMENT's AND THE PROGRAM's FUNCTIONS ON VALUES, in plain Lean: equality, size.
-/
import Derived.Test.YtnilfihmpeojfaaGreatDoorLib
import Derived.IntWalk
namespace Go.Proofs.YtnilfihmpeojfaaGreatDoor
open Go.Eng

mutual
/-- how many values there are in it, its names counted -/
def vsz : Val → Nat
  | ⟨_, _, _, l, ks, _, _, _⟩ => 1 + ks.length + vszs l
def vszs : List Val → Nat
  | [] => 0
  | v :: r => vsz v + vszs r
end

/-- Is any of both but the elements unlike? -/
def c12 (a b : Val) (m : Bool) : Bool :=
  bif (bif (bif (bif (bif (bif (a.kind != b.kind) then true else a.i != b.i) then true else !(a.s == b.s)) then true else !(a.tk == b.tk && (a.tof == b.tof && true))) then true else (bif m then !(a.sec == b.sec) else false)) then true else ((a.l.length : Int) != (b.l.length : Int))) then true else ((a.keys.length : Int) != (b.keys.length : Int))

mutual
def sameV : Val → Val → Bool → Bool
  | ⟨k, i, s, l, ks, tk, tof, sec⟩, b, m => !(c12 ⟨k, i, s, l, ks, tk, tof, sec⟩ b m) && (ks == b.keys && sameVs l b.l m)
def sameVs : List Val → List Val → Bool → Bool
  | [], _, _ => true
  | x :: r, l, m => match l with
    | [] => false
    | y :: s => sameV x y m && sameVs r s m
end

def keysEq (a b : Val) : Bool := (List.range a.keys.length).all fun i => a.keys.getD i [] == b.keys.getD i []
def elemsEq (a b : Val) (m : Bool) : Bool := (List.range a.l.length).all fun i => sameV (a.l.getD i default) (b.l.getD i default) m

theorem all_range_succ (n : Nat) (p : Nat → Bool) : (List.range (n + 1)).all p = (p 0 && (List.range n).all fun i => p (i + 1)) := by
  rw [List.range_succ_eq_map, List.all_cons, List.all_map]; rfl

theorem all_beq {α : Type} [BEq α] [LawfulBEq α] (d : α) : ∀ (l l' : List α), l.length = l'.length → ((List.range l.length).all fun i => l.getD i d == l'.getD i d) = (l == l')
  | [], [], _ => rfl
  | [], _ :: _, h => by simp at h
  | _ :: _, [], h => by simp at h
  | x :: r, y :: s, h => by
    rw [List.length_cons, all_range_succ, List.cons_beq_cons, ← all_beq d r s (by simpa using h)]
    rfl

theorem all_same (m : Bool) : ∀ (l l' : List Val), l.length = l'.length → ((List.range l.length).all fun i => sameV (l.getD i default) (l'.getD i default) m) = sameVs l l' m
  | [], l', _ => by simp [sameVs]
  | _ :: _, [], h => by simp at h
  | x :: r, y :: s, h => by
    rw [List.length_cons, all_range_succ, sameVs, ← all_same m r s (by simpa using h)]
    rfl

theorem c12_len {a b : Val} {m : Bool} (h : c12 a b m = false) : a.l.length = b.l.length ∧ a.keys.length = b.keys.length := by
  have key : ∀ X A B : Bool, (bif (bif X then true else A) then true else B) = false → A = false ∧ B = false := by decide
  obtain ⟨h1, h2⟩ := key _ _ _ h
  simp only [bne_eq_false_iff_eq] at h1 h2
  omega

theorem sameV_eq (a b : Val) (m : Bool) : sameV a b m = (!(c12 a b m) && (keysEq a b && elemsEq a b m)) := by
  cases hc : c12 a b m with
  | true =>
    obtain ⟨k, i, s, l, ks, tk, tof, sec⟩ := a
    simp only [sameV, hc]; rfl
  | false =>
    obtain ⟨h1, h2⟩ := c12_len hc
    unfold keysEq elemsEq
    rw [all_beq [] _ _ h2, all_same m _ _ h1]
    obtain ⟨k, i, s, l, ks, tk, tof, sec⟩ := a
    simp only [sameV, hc]

/-- exactly a value's cells -/
def exV : List (D Pl) → Option Val
  | [.int .i64 k, .int .i64 i, .str s, .pl ⟨.vals, l⟩ .any, .pl ⟨.strs, ks⟩ .any, .int .i64 tk, .int .i64 tof, .bool sec] => some ⟨k, i, s, l, ks, tk, tof, sec⟩
  | _ => none

theorem exV_eq {cs : List (D Pl)} {v : Val} (h : exV cs = some v) : cs = cV v := by
  unfold exV at h
  split at h
  · simp only [Option.some.injEq] at h; subst h; rfl
  · simp at h

def etaV (v : Val) : Val := ⟨v.kind, v.i, v.s, v.l, v.keys, v.tk, v.tof, v.sec⟩
theorem etaV_eq (v : Val) : etaV v = v := by cases v; rfl

theorem vszs_mem {l : List Val} {x : Val} (h : x ∈ l) : vsz x ≤ vszs l := by
  induction l with
  | nil => simp at h
  | cons y r ih =>
    simp only [vszs]
    rcases List.mem_cons.1 h with rfl | h
    · omega
    · have := ih h; omega

theorem vsz_elem {v x : Val} (h : x ∈ v.l) : vsz x < vsz v := by
  obtain ⟨k, i, s, l, ks, tk, tof, sec⟩ := v
  have := vszs_mem h
  simp only [vsz]
  simp only at this
  omega

theorem getD_mem {α : Type} {l : List α} {i : Nat} {d : α} (h : i < l.length) : l.getD i d ∈ l := by
  rw [List.getD_eq_getElem?_getD, List.getElem?_eq_getElem h]
  exact List.getElem_mem h

/-- how many elements -/
def lenV (v : Val) : Int := bif v.kind == 4 then (v.l.length : Int) else bif v.kind == 5 then (bif (bif false then decide ((v.keys.length : Int) > (v.l.length : Int)) else decide ((v.keys.length : Int) < (v.l.length : Int))) then (v.keys.length : Int) else (v.l.length : Int)) else 0

def lenN (v : Val) : Nat := bif v.kind == 4 then v.l.length else bif v.kind == 5 then min v.keys.length v.l.length else 0

theorem lenV_eq (v : Val) : lenV v = (lenN v : Int) := by
  unfold lenV lenN
  cases v.kind == 4 <;> cases v.kind == 5 <;> simp only [cond_true, cond_false] <;> try rfl
  by_cases h : v.keys.length < v.l.length
  · rw [decide_eq_true (by omega), Nat.min_eq_left (by omega)]; rfl
  · rw [decide_eq_false (by omega), Nat.min_eq_right (by omega)]; rfl

theorem lenN_le (v : Val) : lenN v ≤ v.l.length := by
  unfold lenN
  cases v.kind == 4 <;> cases v.kind == 5 <;> simp only [cond_true, cond_false] <;> omega

end Go.Proofs.YtnilfihmpeojfaaGreatDoor

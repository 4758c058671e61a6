/-
  SMALL LAWS that the seats' proofs share: numbers that don't go round, conditions that hold, loops over the bytes of a text.
-/
import Derived.Test.YtcfdmfijlaafkaaBase
namespace Go.Proofs.Ytcfdmfijlaafkaa
open Go.Eng

theorem wrap_in (n : Int) (h : -9223372036854775808 ≤ n ∧ n ≤ 9223372036854775807) : IntKind.i64.wrap n = n := by
  rw [IntKind.wrap_i64]; omega

theorem wrap_nat {n : Nat} (h : n ≤ big) : IntKind.i64.wrap ((n : Int) + 1) = ((n + 1 : Nat) : Int) := by
  have hb : big = 140737488355328 := rfl
  rw [wrap_in _ (by omega)]; rfl

section
variable {β : Type}
def lt_ (i n : Nat) (x y : Option β) : Option β := bif decide ((i : Int) < (n : Int)) then x else y
def ix_ (i n : Nat) (x : Option β) : Option β := bif (true && decide ((i : Int) < (n : Int)) || false) then x else none
def ixo_ (i n : Nat) (g : Bool) (x : Option β) : Option β := bif (true && decide ((i : Int) < (n : Int)) || !g) then x else none
def ck_ (c : Bool) (x : Option β) : Option β := bif c then x else none

theorem lt_t {i n : Nat} (h : i < n) (x y : Option β) : lt_ i n x y = x := by
  unfold lt_; rw [decide_eq_true (show (i : Int) < (n : Int) by omega)]; rfl
theorem lt_f {i n : Nat} (h : ¬ i < n) (x y : Option β) : lt_ i n x y = y := by
  unfold lt_; rw [decide_eq_false (show ¬ (i : Int) < (n : Int) by omega)]; rfl
theorem ix_t {i n : Nat} (h : i < n) (x : Option β) : ix_ i n x = x := by
  unfold ix_; rw [decide_eq_true (show (i : Int) < (n : Int) by omega)]; rfl
theorem ixo_t {i n : Nat} (h : i < n) (g : Bool) (x : Option β) : ixo_ i n g x = x := by
  unfold ixo_; rw [decide_eq_true (show (i : Int) < (n : Int) by omega)]; rfl
theorem ck_t {c : Bool} (h : c = true) (x : Option β) : ck_ c x = x := by unfold ck_; rw [h]; rfl
end

theorem blt_t {a b : Nat} (h : a < b) : Nat.blt a b = true := by rw [Nat.blt_eq]; exact h
theorem ble_t {a b : Nat} (h : a ≤ b) : Nat.ble a b = true := by rw [Nat.ble_eq]; exact h

/-- a text's byte, as a number -/
def byt (s : Str) (i : Nat) : Int := Int.ofNat (s.getD i 0).toNat

/-- one argument, a text; one argument, a byte -/
def pS (f : Str → D Pl) : List (D Pl) → Option (Bool × D Pl)
  | [.str s] => some (true, f s)
  | _ => none
theorem pS_ok {g : FuncId} {f : Str → D Pl} (hf : ∀ s, Snd g [.str s] (f s)) : ∀ ds b d, pS f ds = some (b, d) → b = true → Snd g ds d := by
  intro ds b d h hb
  unfold pS at h
  split at h
  · simp only [Option.some.injEq, Prod.mk.injEq] at h; obtain ⟨_, rfl⟩ := h; exact hf _
  · simp at h
def pU8 (f : Int → D Pl) : List (D Pl) → Option (Bool × D Pl)
  | [.int .u8 c] => some (true, f c)
  | _ => none
theorem pU8_ok {g : FuncId} {f : Int → D Pl} (hf : ∀ c, Snd g [.int .u8 c] (f c)) : ∀ ds b d, pU8 f ds = some (b, d) → b = true → Snd g ds d := by
  intro ds b d h hb
  unfold pU8 at h
  split at h
  · simp only [Option.some.injEq, Prod.mk.injEq] at h; obtain ⟨_, rfl⟩ := h; exact hf _
  · simp at h

/-- A loop that looks through something, told: 'Sf i' at its head; while 'p i' it goes on; else it leaves by 'e2'; at the end by 'e1'. -/
theorem search_of {R : Eng.Told Pl} (hR : TOk R) {body : Code} (hb : loopsOf body = []) {k : Nat} {keep keep2 : List Nat} {Sf : Nat → St Pl} {S1 S2 : St Pl} {S2' : Nat → St Pl} {n : Nat} {p : Nat → Bool} {e1 e2 : Ex} (h1 : e1 ≠ .normal) (h2 : e2 ≠ .normal)
    (step : ∀ i, i < n → evC R noTL noL k body keep (Sf i) = bif p i then some (.normal, Sf (i + 1)) else some (e2, S2' i))
    (last : evC R noTL noL k body keep (Sf n) = some (e1, Sf n))
    (hS1 : maskS (keepOf keep2) (Sf n) = S1) (hS2 : ∀ i, maskS (keepOf keep2) (S2' i) = S2) :
    Goes X0 (.loop body) (Sf 0) (pickR (.ite ((List.range n).all p) (.leaf e1 S1) (.leaf e2 S2))).1 (pickR (.ite ((List.range n).all p) (.leaf e1 S1) (.leaf e2 S2))).2 := by
  refine loop_search h1 h2 (fun i hi hp => ?_) (fun i hi hp => ?_) ?_
  · exact goes_of hR (noTL_ok _ _) (noLoops hb) ((step i hi).trans (by rw [hp]; rfl))
  · have := (goes_of hR (noTL_ok _ _) (noLoops hb) ((step i hi).trans (show _ = some (e2, S2' i) by rw [hp]; rfl))).post (keepOf keep2)
    rwa [hS2] at this
  · have := (goes_of hR (noTL_ok _ _) (noLoops hb) last).post (keepOf keep2)
    rwa [hS1] at this

theorem search_ofD {R : Eng.Told Pl} (hR : TOk R) {body : Code} (hb : loopsOf body = []) {k : Nat} {keep lose keep2 : List Nat} {Sf : Nat → St Pl} {S1 S2 : St Pl} {S2' : Nat → St Pl} {n : Nat} {p : Nat → Bool} {e1 e2 : Ex} (h1 : e1 ≠ .normal) (h2 : e2 ≠ .normal)
    (step : ∀ i, i < n → evD R noTL noL k body keep lose (Sf i) = bif p i then some (.normal, Sf (i + 1)) else some (e2, S2' i))
    (last : evD R noTL noL k body keep lose (Sf n) = some (e1, Sf n))
    (hS1 : maskS (keepOf keep2) (Sf n) = S1) (hS2 : ∀ i, maskS (keepOf keep2) (S2' i) = S2) :
    Goes X0 (.loop body) (Sf 0) (pickR (.ite ((List.range n).all p) (.leaf e1 S1) (.leaf e2 S2))).1 (pickR (.ite ((List.range n).all p) (.leaf e1 S1) (.leaf e2 S2))).2 := by
  refine loop_search h1 h2 (fun i hi hp => ?_) (fun i hi hp => ?_) ?_
  · exact goes_ofD hR (noTL_ok _ _) (noLoops hb) ((step i hi).trans (by rw [hp]; rfl))
  · have := (goes_ofD hR (noTL_ok _ _) (noLoops hb) ((step i hi).trans (show _ = some (e2, S2' i) by rw [hp]; rfl))).post (keepOf keep2)
    rwa [hS2] at this
  · have := (goes_ofD hR (noTL_ok _ _) (noLoops hb) last).post (keepOf keep2)
    rwa [hS1] at this

/-- A loop that goes to its end, told. -/
theorem all_ofD {R : Eng.Told Pl} (hR : TOk R) {body : Code} {L : LK Pl} (hL : ∀ b ∈ loopsOf body, LoopOk X0 L b) {k : Nat} {keep lose keep2 : List Nat} {Sf : Nat → St Pl} {S1 : St Pl} {n : Nat} {e1 : Ex} (h1 : e1 ≠ .normal)
    (step : ∀ i, i < n → evD R noTL L k body keep lose (Sf i) = some (.normal, Sf (i + 1)))
    (last : evD R noTL L k body keep lose (Sf n) = some (e1, Sf n)) (hS1 : maskS (keepOf keep2) (Sf n) = S1) :
    Goes X0 (.loop body) (Sf 0) (pickR (.leaf e1 S1)).1 (pickR (.leaf e1 S1)).2 := by
  refine loop_all h1 (fun i hi => goes_ofD hR (noTL_ok _ _) hL (step i hi)) ?_
  have := (goes_ofD hR (noTL_ok _ _) hL last).post (keepOf keep2)
  rwa [hS1] at this

end Go.Proofs.Ytcfdmfijlaafkaa

/-
  IS A NAME AMONG THOSE: by the document, by the program. The document's order of references.
-/
import Derived.Test.YtcfdmfijlaafkaaTotL
import Derived.Test.YtcfdmfijlaafkaaRLaw
namespace Go.Proofs.Ytcfdmfijlaafkaa
open Go.Eng

set_option maxRecDepth 100000

def hasS (l : List Str) (x : Str) : Bool := l.any fun y => y == x
theorem all_range_succ (n : Nat) (p : Nat → Bool) : (List.range (n + 1)).all p = (p 0 && (List.range n).all fun i => p (i + 1)) := by
  rw [List.range_succ_eq_map, List.all_cons, List.all_map]
  rfl
theorem hasS_range (l : List Str) (x : Str) : ((List.range l.length).all fun i => !(l.getD i [] == x)) = !(hasS l x) := by
  induction l with
  | nil => rfl
  | cons y r ih =>
    rw [List.length_cons, all_range_succ]
    simp only [hasS, List.any_cons, Bool.not_or]
    rw [show (!List.any r fun y => y == x) = !(hasS r x) from rfl, ← ih]
    rfl
def pHasS (f : List Str → Str → D Pl) : List (D Pl) → Option (Bool × D Pl)
  | [d, .str k] => match asL .strs d with
    | some l => some (true, f l k)
    | none => none
  | _ => none
theorem pHasS_ok {g : FuncId} {f : List Str → Str → D Pl} (hf : ∀ l x, Snd g [.pl (pStrs l) .any, .str x] (f l x)) : ∀ ds b d, pHasS f ds = some (b, d) → b = true → Snd g ds d := by
  intro ds b d h hb
  unfold pHasS at h
  split at h
  · split at h
    · rename_i h1
      simp only [Option.some.injEq, Prod.mk.injEq] at h
      obtain ⟨_, rfl⟩ := h
      exact (hf _ _).pre (.cons (asL_rdle h1) (.cons (RDle.refl _) .nil))
    · simp at h
  · simp at h

-- the document's

def sHs (l : List Str) (x : Str) (i : Int) : St Pl := mkS 18 [(0, .pl (pStrs l) .any), (1, .str x), (5, dI i)] []
def sHsr (l : List Str) (x : Str) (i : Int) : St Pl := mkS 18 [(0, .pl (pStrs l) .any), (1, .str x), (4, .bool true), (5, dI i)] []
theorem bHs (l : List Str) (x : Str) (i : Nat) : evD tell0 noTL noL 1 (loopAt 35 0) [0, 1, 4, 5] [] (sHs l x i) =
    lt_ i l.length (ix_ i l.length (bif l.getD i [] == x then some (.ret, sHsr l x i) else some (.normal, sHs l x (IntKind.i64.wrap ((i : Int) + 1))))) (some (.exit 0, sHs l x i)) := by kernel_rfl
theorem idsHs : (loopsAt 35).length = 1 ∧ firstId (loopAt 35 0) = 2 ∧ loopsOf (loopAt 35 0) = [] := ⟨by kernel_rfl, by kernel_rfl, by kernel_rfl⟩
def rHs : St Pl := mkS 18 [] []
def rHst : St Pl := mkS 18 [(4, .bool true)] []
def LSHs (S : St Pl) : Option (Bool × LR Pl) := match seenS 18 [0, 1, 5] S with
  | some ([.pl ⟨.strs, l⟩ .any, .str x, .int .i64 (.ofNat 0)], []) => some (Nat.ble l.length big, .ite ((List.range l.length).all fun i => !(l.getD i [] == x)) (.leaf (.exit 0) rHs) (.leaf .ret rHst))
  | _ => none
theorem LSHs_ok : SOk X0 (loopAt 35 0) LSHs := by
  intro S c r h hc
  unfold LSHs at h
  split at h
  · rename_i l x hs
    simp only [Option.some.injEq, Prod.mk.injEq] at h
    obtain ⟨rfl, rfl⟩ := h
    simp only [Nat.ble_eq] at hc
    refine Goes.pre (keepOf [0, 1, 5]) ?_
    rw [seenS_mask hs]
    refine search_ofD (tell0_ok _) idsHs.2.2 (k := 1) (keep := [0, 1, 4, 5]) (lose := []) (keep2 := [4]) (Sf := fun i => sHs l x i) (S2' := fun i => sHsr l x i) (p := fun i => !(l.getD i [] == x)) (by simp) (by simp) (fun i hi => ?_) ?_ rfl (fun i => rfl)
    · show evD tell0 noTL noL 1 (loopAt 35 0) [0, 1, 4, 5] [] (sHs l x i) = _
      rw [bHs, lt_t hi, ix_t hi, wrap_nat (by omega)]
      cases l.getD i [] == x <;> rfl
    · show evD tell0 noTL noL 1 (loopAt 35 0) [0, 1, 4, 5] [] (sHs l x l.length) = _
      rw [bHs, lt_f (by omega)]
  · simp at h
theorem eHs (l : List Str) (x : Str) : evF tell0 noTL (atL 2 LSHs noL) 1 Try.f35 [.pl (pStrs l) .any, .str x] =
    ck_ (Nat.ble l.length big) (bif (List.range l.length).all (fun i => !(l.getD i [] == x)) then some (.bool false) else some (.bool true)) := by kernel_rfl
theorem has_sound (l : List Str) (x : Str) : Snd 35 [.pl (pStrs l) .any, .str x] (.bool (hasS l x)) := by
  refine SoundAt.rooms fun hroom => snd_fn (n := 1) (tell0_ok _) (noTL_ok _ _) (fn := Try.f35) (by kernel_rfl) (loops_of (f := 35) (fn := Try.f35) (by kernel_rfl) (loops_1 idsHs.1 (atL_ok (fun _ => LSHs_ok) fun h => absurd idsHs.2.1 h))) ((eHs l x).trans ?_)
  have ha : l.length * 16 ≤ big := hroom (.pl (pStrs l) .any) (by simp)
  rw [ck_t (ble_t (by omega)), hasS_range]
  cases hasS l x <;> rfl

-- the program's: slices.Index, slices.Contains

def s26 (l : List Str) (k : Str) (i : Int) : St Pl := mkS 19 [(0, .pl (pStrs l) .any), (1, .str k), (4, dI 0), (7, dI l.length), (8, dI i)] []
def s26r (l : List Str) (k : Str) (i : Int) : St Pl := mkS 19 [(0, .pl (pStrs l) .any), (1, .str k), (4, dI i), (7, dI l.length), (8, dI i)] []
def r26 (l : List Str) (k : Str) (i : Int) : St Pl := mkS 19 [(0, .pl (pStrs l) .any), (1, .str k), (4, dI i)] []
theorem b26 (l : List Str) (k : Str) (i : Nat) : evC tell0 noTL noL 1 (loopAt 40 0) [0, 1, 4, 7, 8] (s26 l k i) =
    lt_ i l.length (ix_ i l.length (bif k == l.getD i [] then some (.ret, s26r l k i) else some (.normal, s26 l k (IntKind.i64.wrap ((i : Int) + 1))))) (some (.exit 0, s26 l k i)) := by kernel_rfl
theorem ids26 : (loopsAt 40).length = 1 ∧ firstId (loopAt 40 0) = 2 ∧ loopsOf (loopAt 40 0) = [] := ⟨by kernel_rfl, by kernel_rfl, by kernel_rfl⟩
def LS26 (S : St Pl) : Option (Bool × LR Pl) := match seenS 19 [0, 1, 4, 7, 8] S with
  | some ([.pl ⟨.strs, l⟩ .any, .str k, .int .i64 (.ofNat 0), .int .i64 n, .int .i64 (.ofNat 0)], []) =>
    some (n == (l.length : Int) && Nat.ble l.length big, loopR l.length (fun i => !(k == l.getD i [])) (.exit 0) (r26 l k 0) .ret (fun i => r26 l k i))
  | _ => none
theorem LS26_ok : SOk X0 (loopAt 40 0) LS26 := by
  intro S c r h hc
  unfold LS26 at h
  split at h
  · rename_i l k n hs
    simp only [Option.some.injEq, Prod.mk.injEq] at h
    obtain ⟨rfl, rfl⟩ := h
    simp only [Bool.and_eq_true, Nat.ble_eq, beq_iff_eq] at hc
    obtain ⟨rfl, hb⟩ := hc
    refine Goes.pre (keepOf [0, 1, 4, 7, 8]) ?_
    rw [seenS_mask hs]
    refine loop_gen (Sf := fun i => s26 l k i) (n := l.length) (p := fun i => !(k == l.getD i [])) (by simp) (by simp) (fun i hi hp => ?_) (fun i hi hp => ?_) ?_
    · have hp : (k == l.getD i []) = false := by simpa using hp
      refine goes_of (tell0_ok _) (noTL_ok _ _) (noLoops ids26.2.2) ((b26 l k i).trans ?_)
      rw [lt_t hi, ix_t hi, hp, wrap_nat (show i ≤ big by omega)]
      rfl
    · have hp : (k == l.getD i []) = true := by simpa using hp
      exact (goes_of (tell0_ok _) (noTL_ok _ _) (noLoops ids26.2.2) ((b26 l k i).trans (show _ = some (.ret, s26r l k i) by rw [lt_t hi, ix_t hi, hp]; rfl))).post (keepOf [0, 1, 4])
    · exact (goes_of (tell0_ok _) (noTL_ok _ _) (noLoops ids26.2.2) ((b26 l k l.length).trans (show _ = some (.exit 0, s26 l k l.length) by rw [lt_f (by omega)]))).post (keepOf [0, 1, 4])
  · simp at h
/-- the first place of a name; the list's length: none -/
def posN (l : List Str) (k : Str) : Nat := ff (fun i => !(k == l.getD i [])) l.length
theorem e26 (l : List Str) (k : Str) : evF tell0 noTL (atL 2 LS26 noL) 2 Try.f40 [.pl (pStrs l) .any, .str k] =
    ck_ (((l.length : Int) == (l.length : Int)) && Nat.ble l.length big) (bif Nat.beq (posN l k) l.length then some (dI (-1)) else some (dI (posN l k))) := by kernel_rfl
def idxV (l : List Str) (k : Str) : Int := bif Nat.beq (posN l k) l.length then -1 else (posN l k : Int)
theorem index_sound (l : List Str) (k : Str) : Snd 40 [.pl (pStrs l) .any, .str k] (dI (idxV l k)) := by
  refine SoundAt.rooms fun hroom => snd_fn (n := 2) (tell0_ok _) (noTL_ok _ _) (f := 40) (fn := Try.f40) (by kernel_rfl) (loops_of (f := 40) (fn := Try.f40) (by kernel_rfl) (loops_1 ids26.1 (atL_ok (fun _ => LS26_ok) fun h => absurd ids26.2.1 h))) ((e26 l k).trans ?_)
  have ha : l.length * 16 ≤ big := hroom (.pl (pStrs l) .any) (by simp)
  rw [ck_t (by rw [beq_self_eq_true, ble_t (by omega)]; rfl)]
  unfold idxV
  cases Nat.beq (posN l k) l.length <;> rfl
theorem e29 (f : List Str → Str → Int) (l : List Str) (k : Str) : evF (tell 40 (pHasS fun l x => dI (f l x)) tell0) noTL noL 1 Try.f29 [.pl (pStrs l) .any, .str k] = some (.bool (decide (f l k ≥ 0))) := by kernel_rfl
theorem idxV_has (l : List Str) (k : Str) : decide (idxV l k ≥ 0) = hasS l k := by
  have h0 : ((List.range l.length).all fun i => !(k == l.getD i [])) = !(hasS l k) := by
    rw [← hasS_range]
    congr 1
    funext i
    rw [Bool.beq_comm]
  unfold idxV
  rcases ff_spec l.length (fun i => !(k == l.getD i [])) with ⟨h1, h2⟩ | ⟨h1, h2, _⟩
  · have : posN l k = l.length := h1
    rw [this, Nat.beq_refl, cond_true]
    have h3 : ((List.range l.length).all fun i => !(k == l.getD i [])) = true := List.all_eq_true.2 fun i hi => h2 i (List.mem_range.1 hi)
    rw [h3] at h0
    have : hasS l k = false := by simpa using h0.symm
    rw [this]; rfl
  · have hlt : posN l k < l.length := h1
    rw [show Nat.beq (posN l k) l.length = false from by
      cases hb : Nat.beq (posN l k) l.length with
      | false => rfl
      | true => have := Nat.eq_of_beq_eq_true hb; omega, cond_false]
    have h3 : ((List.range l.length).all fun i => !(k == l.getD i [])) = false := by
      rw [List.all_eq_false]
      exact ⟨posN l k, List.mem_range.2 hlt, by rw [show (!(k == l.getD (posN l k) [])) = false from h2]; simp⟩
    rw [h3] at h0
    have : hasS l k = true := by simpa using h0.symm
    rw [this]
    exact decide_eq_true (by omega)
theorem pIdx_ok : ∀ ds b d, pHasS (fun l x => dI (idxV l x)) ds = some (b, d) → b = true → Snd 40 ds d := pHasS_ok index_sound
theorem contains_sound (l : List Str) (k : Str) : Snd 29 [.pl (pStrs l) .any, .str k] (.bool (hasS l k)) := by
  rw [← idxV_has]
  exact snd_fn (n := 1) (tell_ok pIdx_ok (tell0_ok _)) (noTL_ok _ _) (f := 29) (fn := Try.f29) (by kernel_rfl) (loops_of (f := 29) (fn := Try.f29) (by kernel_rfl) (loops_0 (by kernel_rfl))) (e29 idxV l k)

-- the document's order

def p2T (f : Tw → Tw → D Pl) : List (D Pl) → Option (Bool × D Pl)
  | [.agg [.str a, .str b], .agg [.str c, .str d]] => some (true, f (a, b) (c, d))
  | _ => none
theorem p2T_ok {g : FuncId} {f : Tw → Tw → D Pl} (hf : ∀ a b, Snd g [.agg (cT a), .agg (cT b)] (f a b)) : ∀ ds b d, p2T f ds = some (b, d) → b = true → Snd g ds d := by
  intro ds b d h hb
  unfold p2T at h
  split at h
  · simp only [Option.some.injEq, Prod.mk.injEq] at h
    obtain ⟨_, rfl⟩ := h
    exact hf (_, _) (_, _)
  · simp at h
theorem e18 (a b : Tw) : evF tell0 noTL noL 1 Try.f18 [.agg (cT a), .agg (cT b)] = bif !(a.1 == b.1) then some (.bool (ltS a.1 b.1)) else some (.bool (ltS a.2 b.2)) := by kernel_rfl
theorem less_sound (a b : Tw) : Snd 18 [.agg (cT a), .agg (cT b)] (.bool (docK a b)) := by
  refine snd_fn (n := 1) (tell0_ok _) (noTL_ok _ _) (f := 18) (fn := Try.f18) (by kernel_rfl) (loops_of (f := 18) (fn := Try.f18) (by kernel_rfl) (loops_0 (by kernel_rfl))) ((e18 a b).trans ?_)
  unfold docK
  cases !(a.1 == b.1) <;> rfl
end Go.Proofs.Ytcfdmfijlaafkaa

/-
  THE REFERENCES OF AN EXPRESSION, by the document: all of them, with their places.
-/

namespace Go.Proofs.Ytcfdmfijlaafkaa
open Go.Eng

set_option maxRecDepth 100000

/-- A kind whose body sees the names that it gives. -/
def isL (op : Int) : Bool := bif op == 24 then true else op == 25
/-- 'x.y', its first part a name. -/
def isD (e : ExprR) : Bool := bif (bif e.op == 3 then (e.l.length : Int) == 1 else false) then (e.l.getD 0 default).op == 2 else false
/-- The names that a part sees. -/
def bnd (b : List Str) (e : ExprR) (i : Nat) : List Str := bif (bif decide ((i : Int) > 0) then isL e.op else false) then b ++ [e.s, e.s2] else b
def accA (A : List Str → ExprR → List AskedR) (b : List Str) (e : ExprR) : Nat → List AskedR
  | 0 => []
  | i + 1 => accA A b e i ++ A (bnd b e i) (e.l.getD i default)
def allR : Nat → List Str → ExprR → List AskedR
  | 0, _, _ => []
  | n + 1, b, e =>
    bif e.op == 2 then (bif hasS b e.s then [] else [⟨⟨e.s, []⟩, e.p⟩])
    else bif isD e then (bif hasS b (e.l.getD 0 default).s then [] else [⟨⟨(e.l.getD 0 default).s, e.s⟩, (e.l.getD 0 default).p⟩])
    else accA (allR n) b e e.l.length

def asAk : D Pl → Option (List AskedR)
  | .nilS => some []
  | .pl ⟨.askeds, l⟩ _ => some l
  | _ => none
theorem asAk_rdle {d : D Pl} {l : List AskedR} (h : asAk d = some l) : RDle X0.C d (.pl (pAskeds l) .any) := by
  unfold asAk at h
  split at h
  · simp only [Option.some.injEq] at h; subst h; exact RDle.of (.nil _ rfl)
  · simp only [Option.some.injEq] at h; subst h; exact RDle.of (.any _ _)
  · simp at h

/-- A tree and names: so much may come of them. -/
def okA (b : List Str) (e : ExprR) : Bool := Nat.ble ((b.length + 2 * esz e) * 64) big
def pAll (n : Nat) : List (D Pl) → Option (Bool × D Pl)
  | [d, b] => match asE d, asL .strs b with
    | some e, some b => some (Nat.blt (esz e) n && okA b e, .pl (pAskeds (allR n b e)) .any)
    | _, _ => none
  | _ => none
def tAll (n : Nat) : Eng.Told Pl := tell 35 (pHasS fun l x => .bool (hasS l x)) (tell 17 (pAll n) tell0)

def sA2 (e : ExprR) (b : List Str) (out : List AskedR) (i : Int) : St Pl := mkS 100 [(1, .pl (pStrs b) .any), (2, .ptr 2 0), (5, .arr 98), (6, dI i)] [(98, .arr false (pAskeds out)), (2, .box false (cExpr e))]
def FA2 : Fix Pl := { keep := [1, 2, 5, 6], lose := [81, 83, 89], ord := [98, 2] }
theorem bA2 (e : ExprR) (b : List Str) (out : List AskedR) (n i : Nat) : evZ (tAll n) noTL noL 2 (loopAt 17 0) FA2 (sA2 e b out i) =
    (let k := fun (sc : List Str) => ix_ i e.l.length (ck_ (Nat.blt (esz (etaE (e.l.getD i default))) n && okA sc (etaE (e.l.getD i default))) (ck_ (true && Nat.ble ((out.length + (allR n sc (etaE (e.l.getD i default))).length) * 56) big) (some (.normal, sA2 e b (out ++ allR n sc (etaE (e.l.getD i default))) (w64 ((i : Int) + 1))))))
    lt_ i e.l.length (bif (bif decide ((i : Int) > 0) then isL e.op else false) then ck_ (true && Nat.ble ((0 + b.length) * 16) big) (ck_ (true && Nat.ble ((b.length + 2) * 16) big) (k (b ++ [e.s, e.s2]))) else k b) (some (.exit 0, sA2 e b out i))) := by kernel_rfl
theorem idsA2 : (loopsAt 17).length = 1 ∧ firstId (loopAt 17 0) = 11 ∧ loopsOf (loopAt 17 0) = [] := ⟨by kernel_rfl, by kernel_rfl, by kernel_rfl⟩
def sA20 (e : ExprR) (b : List Str) : St Pl := mkS 100 [(1, .pl (pStrs b) .any), (2, .ptr 2 0), (5, .nilS), (6, dI 0)] [(2, .box false (cExpr e))]
theorem weakA2_eq (e : ExprR) (b : List Str) : nilsS X0.C [(.slot 5, 98, pAskeds [])] (sA20 e b) = sA2 e b [] 0 := by kernel_rfl
theorem weakA2 (e : ExprR) (b : List Str) : Weak X0 (sA20 e b) (sA2 e b [] 0) := weakA2_eq e b ▸ Weak.nils xok [(.slot 5, 98, pAskeds [])] (sA20 e b)
def LSA2 (n : Nat) (S : St Pl) : Option (Bool × LR Pl) := match seenS 100 [1, 2, 5, 6] S with
  | some ([.pl ⟨.strs, b⟩ .any, .ptr 2 0, .nilS, .int .i64 (.ofNat 0)], [(2, .box false ce)]) => (match xExpr ce with
    | some e => some (Nat.blt (eszs e.l) n && okA b e, .leaf (.exit 0) (sA2 e b (accA (allR n) b e e.l.length) e.l.length))
    | none => none)
  | _ => none
theorem eA2 (e : ExprR) (b : List Str) (n : Nat) : evF (tAll n) noTL (atL 11 (LSA2 n) noL) 2 Try.f17 [.agg (cExpr e), .pl (pStrs b) .any] =
   (bif e.op == 2 then (bif hasS b e.s then some .nilS else some (.pl (pAskeds [⟨⟨e.s, []⟩, etaP e.p⟩]) .full))
    else ixo_ 0 e.l.length ((bif e.op == 3 then (e.l.length : Int) == 1 else false) == true) (bif isD e then (ix_ 0 e.l.length (bif hasS b (e.l.getD 0 default).s then some .nilS else ix_ 0 e.l.length (ix_ 0 e.l.length (some (.pl (pAskeds [⟨⟨(e.l.getD 0 default).s, e.s⟩, etaP (e.l.getD 0 default).p⟩]) .full)))))
    else ck_ (Nat.blt (eszs e.l) n && okA b (etaE e)) (some (.pl (pAskeds (accA (allR n) b (etaE e) e.l.length)) .any)))) := by kernel_rfl

-- how many

theorem bnd_len (b : List Str) (e : ExprR) (i : Nat) : (bnd b e i).length ≤ b.length + 2 := by
  unfold bnd
  cases (bif decide ((i : Int) > 0) then isL e.op else false) <;> simp
theorem eszs_take {l : List ExprR} {i : Nat} (hi : i < l.length) : eszs (l.take (i + 1)) = eszs (l.take i) + esz (l.getD i default) := by
  induction l generalizing i with
  | nil => simp at hi
  | cons x r ih =>
    cases i with
    | zero => simp [eszs]
    | succ i =>
      have := ih (i := i) (by simpa using hi)
      simp only [List.take_succ_cons, eszs, List.getD_cons_succ] at this ⊢
      omega
theorem eszs_le {l : List ExprR} (i : Nat) : eszs (l.take i) ≤ eszs l := by
  induction l generalizing i with
  | nil => simp
  | cons x r ih =>
    cases i with
    | zero => simp [eszs]
    | succ i =>
      have := ih i
      simp only [List.take_succ_cons, eszs]
      omega
theorem accA_len {A : List Str → ExprR → List AskedR} (hA : ∀ b x, (A b x).length ≤ esz x) (b : List Str) (e : ExprR) : ∀ i, i ≤ e.l.length → (accA A b e i).length ≤ eszs (e.l.take i)
  | 0, _ => by simp [accA]
  | i + 1, hi => by
    have h1 := accA_len hA b e i (by omega)
    have h2 := hA (bnd b e i) (e.l.getD i default)
    rw [eszs_take (by omega), accA, List.length_append]
    omega
theorem esz_pos (e : ExprR) : 0 < esz e := by have := esz_eq e; omega
theorem allR_len : ∀ n b e, (allR n b e).length ≤ esz e
  | 0, _, _ => by simp [allR]
  | n + 1, b, e => by
    have := esz_pos e
    have h1 := accA_len (allR_len n) b e e.l.length (Nat.le_refl _)
    have h2 := esz_eq e
    rw [List.take_length] at h1
    rw [allR]
    cases e.op == 2 with
    | true =>
      rw [cond_true]
      cases hasS b e.s <;> simp <;> omega
    | false =>
      rw [cond_false]
      cases isD e with
      | true =>
        rw [cond_true]
        cases hasS b (e.l.getD 0 default).s <;> simp <;> omega
      | false => rw [cond_false]; omega

theorem okA_elem {b : List Str} {e : ExprR} {i : Nat} (h : okA b e = true) (hi : i < e.l.length) : okA (bnd b e i) (e.l.getD i default) = true := by
  unfold okA at *
  rw [Nat.ble_eq] at *
  have h1 := bnd_len b e i
  have h2 := esz_elem (getD_mem (d := default) hi : e.l.getD i default ∈ e.l)
  omega
theorem okA_of {b : List Str} {e : ExprR} (h : okA b e = true) : (b.length + 2 * esz e) * 64 ≤ big := by
  unfold okA at h
  rwa [Nat.ble_eq] at h

theorem LSA2_ok {n : Nat} (hT : TOk (tAll n)) : SOk X0 (loopAt 17 0) (LSA2 n) := by
  intro S c r h hc
  unfold LSA2 at h
  split at h
  · rename_i b ce hs
    split at h
    · rename_i e he
      simp only [Option.some.injEq, Prod.mk.injEq] at h
      obtain ⟨rfl, rfl⟩ := h
      rw [Bool.and_eq_true, Nat.blt_eq] at hc
      rw [xExpr_eq he] at hs
      have hok := okA_of hc.2
      have hbig : big = 140737488355328 := rfl
      have hez := esz_eq e
      have hlen : e.l.length ≤ eszs e.l := by
        clear hs he hez hok hc
        generalize e.l = l
        induction l with
        | nil => simp
        | cons x r ih => have := esz_pos x; simp only [List.length_cons, eszs]; omega
      refine Goes.pre (keepOf [1, 2, 5, 6]) ?_
      rw [seenS_mask hs]
      refine Goes.weakPre (weakA2 e b) ?_
      refine loop_all (Sf := fun i => sA2 e b (accA (allR n) b e i) (i : Int)) (n := e.l.length) (by simp) (fun i hi => ?_) ?_
      · refine goes_ofZ hT (noTL_ok _ _) (noLoops idsA2.2.2) ((bA2 e b _ n i).trans ?_)
        have h1 := eszs_mem (getD_mem (d := default) hi : e.l.getD i default ∈ e.l)
        have h2 := accA_len (allR_len n) b e i (by omega)
        have h3 := allR_len n (bnd b e i) (e.l.getD i default)
        have h4 := eszs_take hi
        have h5 := eszs_le (l := e.l) (i + 1)
        have h6 := okA_elem hc.2 hi
        have fin : ∀ sc, sc = bnd b e i → (ix_ i e.l.length (ck_ (Nat.blt (esz (etaE (e.l.getD i default))) n && okA sc (etaE (e.l.getD i default))) (ck_ (true && Nat.ble (((accA (allR n) b e i).length + (allR n sc (etaE (e.l.getD i default))).length) * 56) big) (some (Ex.normal, sA2 e b (accA (allR n) b e i ++ allR n sc (etaE (e.l.getD i default))) (w64 ((i : Int) + 1))))))) = some (.normal, sA2 e b (accA (allR n) b e (i + 1)) ((i + 1 : Nat) : Int)) := by
          rintro sc rfl
          rw [ix_t hi, etaE_eq, ck_t (by rw [blt_t (by omega), h6]; rfl), ck_t (by rw [ble_t (by omega)]; rfl), show w64 ((i : Int) + 1) = ((i + 1 : Nat) : Int) from wrap_nat (by omega)]
          rfl
        rw [lt_t hi]
        cases hc1 : (bif decide ((i : Int) > 0) then isL e.op else false) with
        | true =>
          rw [cond_true, ck_t (by rw [ble_t (by omega)]; rfl), ck_t (by rw [ble_t (by omega)]; rfl)]
          exact fin _ (by unfold bnd; rw [hc1]; rfl)
        | false =>
          rw [cond_false]
          exact fin _ (by unfold bnd; rw [hc1]; rfl)
      · exact goes_ofZ hT (noTL_ok _ _) (noLoops idsA2.2.2) ((bA2 e b _ n e.l.length).trans (lt_f (by omega) _ _))
    · simp at h
  · simp at h

theorem pAll_ok {n : Nat} (ih : ∀ b e, esz e < n → okA b e = true → Snd 17 [.agg (cExpr e), .pl (pStrs b) .any] (.pl (pAskeds (allR n b e)) .any)) : ∀ ds c d, pAll n ds = some (c, d) → c = true → Snd 17 ds d := by
  intro ds c d h hc
  unfold pAll at h
  split at h
  · split at h
    · rename_i h1 h2
      simp only [Option.some.injEq, Prod.mk.injEq] at h
      obtain ⟨rfl, rfl⟩ := h
      rw [Bool.and_eq_true, Nat.blt_eq] at hc
      exact (ih _ _ hc.1 hc.2).pre (.cons (asE_rdle h1) (.cons (asL_rdle h2) .nil))
    · simp at h
  · simp at h
theorem isD_len {e : ExprR} (h : (bif e.op == 3 then (e.l.length : Int) == 1 else false) = true) : 0 < e.l.length := by
  cases h1 : e.op == 3 with
  | false => rw [h1] at h; cases h
  | true =>
    rw [h1, cond_true, beq_iff_eq] at h
    omega
theorem all_n : ∀ n b e, esz e < n → okA b e = true → Snd 17 [.agg (cExpr e), .pl (pStrs b) .any] (.pl (pAskeds (allR n b e)) .any) := by
  intro n
  induction n with
  | zero => intro b e h; omega
  | succ n ih =>
    intro b e hlt hok
    have hT : TOk (tAll n) := tell_ok (pHasS_ok has_sound) (tell_ok (pAll_ok ih) (tell0_ok _))
    have h1 : eszs e.l < n := by have := esz_eq e; omega
    have go := fun {d} (h : _ = some d) => snd_fn (n := 2) hT (noTL_ok _ _) (f := 17) (fn := Try.f17) (by kernel_rfl) (loops_of (f := 17) (fn := Try.f17) (by kernel_rfl) (loops_1 idsA2.1 (atL_ok (fun _ => LSA2_ok hT) fun h => absurd idsA2.2.1 h))) ((eA2 e b n).trans h)
    rw [etaE_eq] at go
    rw [allR]
    cases c1 : e.op == 2 with
    | true =>
      rw [c1, cond_true] at go
      rw [cond_true]
      cases c2 : hasS b e.s with
      | true => rw [c2] at go; exact (go rfl).post (RDle.of (.nil _ rfl))
      | false => rw [c2] at go; exact (go rfl).post (RDle.of (.any _ _))
    | false =>
      rw [c1, cond_false] at go
      rw [cond_false]
      cases c0 : (bif e.op == 3 then (e.l.length : Int) == 1 else false) with
      | true =>
        have hl := isD_len c0
        rw [ixo_t hl] at go
        cases c2 : isD e with
        | true =>
          rw [c2, cond_true, ix_t hl] at go
          rw [cond_true]
          cases c3 : hasS b (e.l.getD 0 default).s with
          | true => rw [c3] at go; exact (go rfl).post (RDle.of (.nil _ rfl))
          | false => rw [c3, ix_t hl, ix_t hl] at go; exact (go rfl).post (RDle.of (.any _ _))
        | false =>
          rw [c2, ck_t (by rw [blt_t h1, hok]; rfl)] at go
          rw [cond_false]
          exact go rfl
      | false =>
        have c2 : isD e = false := by unfold isD; rw [c0]; rfl
        rw [c0, c2, show ∀ x : Option (D Pl), ixo_ 0 e.l.length (false == true) x = x from fun x => by unfold ixo_; simp, ck_t (by rw [blt_t h1, hok]; rfl)] at go
        rw [c2, cond_false]
        exact go rfl
end Go.Proofs.Ytcfdmfijlaafkaa

/-
  THE REFERENCES OF AN EXPRESSION, by the document: each once, in their order.
-/

namespace Go.Proofs.Ytcfdmfijlaafkaa
open Go.Eng

set_option maxRecDepth 100000

def rt (r : RefR) : Tw := (r.root, r.name)
def atR (o : List RefR) (r : RefR) : Nat := (o.takeWhile fun y => docK (rt y) (rt r)).length
def eqRr (a b : RefR) : Bool := a.root == b.root && (a.name == b.name && true)
def isR (o : List RefR) (r : RefR) : Bool := bif decide ((atR o r : Int) < (o.length : Int)) then eqRr (o.getD (atR o r) default) r else false
def insR (o : List RefR) (r : RefR) : List RefR := bif isR o r then o else (o.take (atR o r) ++ [r]) ++ o.drop (atR o r)

def sRI (l : List AskedR) (o : List RefR) (r : RefR) (i a : Int) : St Pl := mkS 63 [(3, .pl (pAskeds l) .any), (4, .pl (pRefs o) .any), (5, dI i), (6, .ptr 6 0), (7, dI a)] [(6, .box false (cRef r))]
def sRI0 (l : List AskedR) (r : RefR) (i : Int) : St Pl := mkS 63 [(3, .pl (pAskeds l) .any), (4, .nilS), (5, dI i), (6, .ptr 6 0), (7, dI 0)] [(6, .box false (cRef r))]
def tLs : Eng.Told Pl := tell 18 (p2T fun a b => .bool (docK a b)) tell0
theorem tLs_ok : TOk tLs := tell_ok (p2T_ok less_sound) (tell0_ok _)
def FRI : Fix Pl := { keep := [3, 4, 5, 6, 7] }
theorem bRI (l : List AskedR) (o : List RefR) (r : RefR) (i a : Nat) : evZ tLs noTL noL 1 (loopAt 8 1) FRI (sRI l o r i a) =
    ixo_ a o.length (decide ((a : Int) < (o.length : Int)) == true) (bif decide ((a : Int) < (o.length : Int)) == true then (bif docK (rt (o.getD a default)) (rt r) then some (.normal, sRI l o r i (w64 ((a : Int) + 1))) else some (.exit 2, sRI l o r i a)) else some (.exit 2, sRI l o r i a)) := by kernel_rfl
theorem bRI0 (l : List AskedR) (r : RefR) (i : Nat) : evZ tLs noTL noL 1 (loopAt 8 1) FRI (sRI0 l r i) = some (.exit 2, sRI0 l r i) := by kernel_rfl
theorem ids8 : (loopsAt 8).length = 2 ∧ firstId (loopAt 8 0) = 4 ∧ firstId (loopAt 8 1) = 8 ∧ loopsOf (loopAt 8 1) = [] ∧ loopsOf (loopAt 8 0) = [loopAt 8 1] := ⟨by kernel_rfl, by kernel_rfl, by kernel_rfl, by kernel_rfl, by kernel_rfl⟩
def LSRI (S : St Pl) : Option (Bool × LR Pl) := match seenS 63 [3, 4, 5, 6, 7] S with
  | some ([.pl ⟨.askeds, l⟩ .any, .pl ⟨.refs, o⟩ .any, .int .i64 (.ofNat i), .ptr 6 0, .int .i64 (.ofNat 0)], [(6, .box false [.str x, .str y])]) => some (Nat.ble o.length big, .leaf (.exit 2) (sRI l o ⟨x, y⟩ i (atR o ⟨x, y⟩)))
  | some ([.pl ⟨.askeds, l⟩ .any, .nilS, .int .i64 (.ofNat i), .ptr 6 0, .int .i64 (.ofNat 0)], [(6, .box false [.str x, .str y])]) => some (true, .leaf (.exit 2) (sRI0 l ⟨x, y⟩ i))
  | _ => none
def sRB (l : List AskedR) (o : List RefR) (i : Int) : St Pl := mkS 63 [(3, .pl (pAskeds l) .any), (4, .pl (pRefs o) .any), (5, dI i)] []
def sRB0 (l : List AskedR) (i : Int) : St Pl := mkS 63 [(3, .pl (pAskeds l) .any), (4, .nilS), (5, dI i)] []
def cu {α : Type} (o : List α) (a n : Nat) : List α := (o.drop a).take n
def FRB : Fix Pl := { calm := [61], keep := [3, 4, 5], lose := [6, 52, 56, 61] }
theorem bRB0 (l : List AskedR) (i : Nat) : evZ tLs noTL (atL 8 LSRI noL) 1 (loopAt 8 0) FRB (sRB0 l i) =
    lt_ i l.length (ix_ i l.length (some (.normal, sRB l [(l.getD i default).r] (w64 ((i : Int) + 1))))) (some (.exit 0, sRB0 l i)) := by kernel_rfl
def etaRf (r : RefR) : RefR := ⟨r.root, r.name⟩
theorem bRB (l : List AskedR) (o : List RefR) (i : Nat) : evZ tLs noTL (atL 8 LSRI noL) 1 (loopAt 8 0) FRB (sRB l o i) =
   (let r := (l.getD i default).r
   let a := atR o (etaRf r)
   lt_ i l.length (ix_ i l.length (ck_ (Nat.ble o.length big) (ixo_ a o.length (decide ((a : Int) < (o.length : Int)) == true) (bif (bif decide ((a : Int) < (o.length : Int)) then eqRr (o.getD a default) r else false) then some (.normal, sRB l o (w64 ((i : Int) + 1))) else
      ck_ (true && decide ((a : Int) ≤ (o.length : Int)) || false)
        (ck_ (true && Nat.ble ((0 + (cu o 0 a).length) * 32) big) (ck_ (true && Nat.ble (((cu o 0 a).length + 1) * 32) big)
          (ck_ (true && decide ((a : Int) ≤ (o.length : Int)) && decide ((o.length : Int) ≤ (o.length : Int)) || false)
            (ck_ (true && Nat.ble (((cu o 0 a ++ [r]).length + (cu o a (o.length - a)).length) * 32) big)
              (some (.normal, sRB l ((cu o 0 a ++ [r]) ++ cu o a (o.length - a)) (w64 ((i : Int) + 1))))))))))))
      (some (.exit 0, sRB l o i))) := by kernel_rfl

theorem rtakeWhile_all {p : RefR → Bool} : ∀ {o : List RefR}, (∀ y ∈ o, p y = true) → o.takeWhile p = o
  | [], _ => rfl
  | y :: r, h => by rw [List.takeWhile_cons, h y List.mem_cons_self, if_pos rfl, rtakeWhile_all fun z hz => h z (List.mem_cons_of_mem _ hz)]
theorem ff_atR (o : List RefR) (x : RefR) : ff (fun j => docK (rt (o.getD j default)) (rt x)) o.length = atR o x := by
  rcases ff_spec o.length (fun j => docK (rt (o.getD j default)) (rt x)) with ⟨h1, h2⟩ | ⟨h1, h2, h3⟩
  · rw [h1]
    have : o.takeWhile (fun y => docK (rt y) (rt x)) = o := rtakeWhile_all fun y hy => by
      obtain ⟨j, hj, rfl⟩ := List.mem_iff_getElem.1 hy
      have := h2 j hj
      simpa [List.getD_eq_getElem?_getD, List.getElem?_eq_getElem hj] using this
    unfold atR; rw [this]
  · generalize ff (fun j => docK (rt (o.getD j default)) (rt x)) o.length = n at *
    unfold atR
    induction o generalizing n with
    | nil => simp at h1
    | cons y r ih =>
      rw [List.takeWhile_cons]
      cases n with
      | zero =>
        have h2 : docK (rt y) (rt x) = false := by simpa using h2
        rw [h2]; simp
      | succ m =>
        have h0 : docK (rt y) (rt x) = true := by simpa using h3 0 (by omega)
        rw [h0]
        simp only [if_true, List.length_cons]
        rw [← ih m (by simpa using h1) (by simpa using h2) (fun j hj => by simpa using h3 (j + 1) (by omega))]

theorem LSRI_ok : SOk X0 (loopAt 8 1) LSRI := by
  intro S c r h hc
  unfold LSRI at h
  split at h
  · rename_i l o i x y hs
    simp only [Option.some.injEq, Prod.mk.injEq] at h
    obtain ⟨rfl, rfl⟩ := h
    simp only [Nat.ble_eq] at hc
    refine Goes.pre (keepOf [3, 4, 5, 6, 7]) ?_
    rw [seenS_mask hs, ← ff_atR]
    refine loop_until (Sf := fun a => sRI l o ⟨x, y⟩ i a) (n := o.length) (p := fun j => docK (rt (o.getD j default)) (rt ⟨x, y⟩)) (S2 := fun a => sRI l o ⟨x, y⟩ i a) (by simp) (fun a ha hp => ?_) (fun a ha hp => ?_)
    · refine goes_ofZ tLs_ok (noTL_ok _ _) (noLoops ids8.2.2.2.1) ((bRI l o ⟨x, y⟩ i a).trans ?_)
      have hp : docK (rt (o.getD a default)) (rt ⟨x, y⟩) = true := hp
      rw [ixo_t ha, hp, decide_eq_true (show (a : Int) < (o.length : Int) by omega), show w64 ((a : Int) + 1) = ((a + 1 : Nat) : Int) from wrap_nat (by omega)]
      rfl
    · refine goes_ofZ tLs_ok (noTL_ok _ _) (noLoops ids8.2.2.2.1) ((bRI l o ⟨x, y⟩ i a).trans ?_)
      by_cases ha' : a < o.length
      · have hp : docK (rt (o.getD a default)) (rt ⟨x, y⟩) = false := hp ha'
        rw [ixo_t ha', hp, decide_eq_true (show (a : Int) < (o.length : Int) by omega)]
        rfl
      · rw [decide_eq_false (show ¬ (a : Int) < (o.length : Int) by omega), show ∀ x : Option (Ex × St Pl), ixo_ a o.length (false == true) x = x from fun x => by unfold ixo_; simp]
        rfl
  · rename_i l i x y hs
    simp only [Option.some.injEq, Prod.mk.injEq] at h
    obtain ⟨rfl, rfl⟩ := h
    refine Goes.pre (keepOf [3, 4, 5, 6, 7]) ?_
    rw [seenS_mask hs]
    exact loop_all (Sf := fun _ => sRI0 l ⟨x, y⟩ i) (n := 0) (by simp) (fun j hj => by omega) (goes_ofZ tLs_ok (noTL_ok _ _) (noLoops ids8.2.2.2.1) (bRI0 l ⟨x, y⟩ i))
  · simp at h

theorem insR_eq (o : List RefR) (x : RefR) (h : isR o x = false) : (cu o 0 (atR o x) ++ [x]) ++ cu o (atR o x) (o.length - atR o x) = insR o x := by
  unfold insR cu
  rw [h, cond_false, List.drop_zero, List.take_of_length_le (l := List.drop _ _) (by simp)]
theorem atR_le (o : List RefR) (x : RefR) : atR o x ≤ o.length := by
  unfold atR
  induction o with
  | nil => simp
  | cons y r ih => rw [List.takeWhile_cons]; split <;> simp <;> omega
theorem insR_len (o : List RefR) (x : RefR) : (insR o x).length ≤ o.length + 1 := by
  have := atR_le o x
  unfold insR
  cases isR o x <;> simp <;> omega

def docR (l : List AskedR) : List RefR := l.foldl (fun o x => insR o x.r) []
def oR (l : List AskedR) (i : Nat) : List RefR := docR (l.take i)
theorem oR_succ {l : List AskedR} {i : Nat} (hi : i < l.length) : oR l (i + 1) = insR (oR l i) (l.getD i default).r := by
  unfold oR docR
  rw [List.take_add_one, List.getElem?_eq_getElem hi, Option.toList_some, List.foldl_append, List.getD_eq_getElem?_getD, List.getElem?_eq_getElem hi]
  rfl
theorem oR_len (l : List AskedR) (i : Nat) (hi : i ≤ l.length) : (oR l i).length ≤ i := by
  induction i with
  | zero => simp [oR, docR]
  | succ i ih =>
    rw [oR_succ (by omega)]
    have := insR_len (oR l i) (l.getD i default).r
    have := ih (by omega)
    omega
def SRB (l : List AskedR) : Nat → St Pl
  | 0 => sRB0 l 0
  | i + 1 => sRB l (oR l (i + 1)) (i + 1 : Nat)
theorem bRB_step (l : List AskedR) (o : List RefR) (i : Nat) (hi : i < l.length) (hb : l.length * 32 ≤ big) (ho : o.length ≤ i) :
    evZ tLs noTL (atL 8 LSRI noL) 1 (loopAt 8 0) FRB (sRB l o i) = some (.normal, sRB l (insR o (l.getD i default).r) (i + 1 : Nat)) := by
  have hbig : big = 140737488355328 := rfl
  rw [bRB]
  simp only [show ∀ r, etaRf r = r from fun r => rfl]
  rw [lt_t hi, ix_t hi, ck_t (ble_t (by omega)), show (bif decide ((atR o (l.getD i default).r : Int) < (o.length : Int)) then eqRr (o.getD (atR o (l.getD i default).r) default) (l.getD i default).r else false) = isR o (l.getD i default).r from rfl, show w64 ((i : Int) + 1) = ((i + 1 : Nat) : Int) from wrap_nat (by omega)]
  have ha := atR_le o (l.getD i default).r
  have hx : ∀ x : Option (Ex × St Pl), ixo_ (atR o (l.getD i default).r) o.length (decide ((atR o (l.getD i default).r : Int) < (o.length : Int)) == true) x = x := by
    intro x
    by_cases h : atR o (l.getD i default).r < o.length
    · exact ixo_t h _ _
    · rw [decide_eq_false (by omega)]; unfold ixo_; simp
  rw [hx]
  cases hk : isR o (l.getD i default).r with
  | true => rw [cond_true, show insR o (l.getD i default).r = o by unfold insR; rw [hk]; rfl]
  | false =>
    rw [cond_false, insR_eq _ _ hk, ck_t (by rw [decide_eq_true (by omega)]; rfl), ck_t (by simp only [cu, Bool.true_and]; exact ble_t (by simp; omega)),
      ck_t (by simp only [cu, Bool.true_and]; exact ble_t (by simp; omega)), ck_t (by rw [decide_eq_true (show (atR o (l.getD i default).r : Int) ≤ (o.length : Int) by omega)]; simp), ck_t (by simp only [cu, Bool.true_and]; exact ble_t (by simp; omega))]

def rRB (l : List AskedR) : St Pl := mkS 63 [(4, .pl (pRefs (docR l)) .any)] []
def rRB0 : St Pl := mkS 63 [(4, .nilS)] []
def FRh : Fix Pl := { keep := [3, 4, 5], lose := [1] }
noncomputable def LSRB (S : St Pl) : Option (Bool × LR Pl) := match seenS 63 [3, 4, 5] (fixS X0.C FRh S) with
  | some ([.pl ⟨.askeds, l⟩ .any, .nilS, .int .i64 (.ofNat 0)], []) => some (Nat.ble (l.length * 32) big, .ite l.isEmpty (.leaf (.exit 0) rRB0) (.leaf (.exit 0) (rRB l)))
  | _ => none
theorem LSRB_ok : SOk X0 (loopAt 8 0) LSRB := by
  intro S c r h hc
  unfold LSRB at h
  split at h
  · rename_i l hs
    simp only [Option.some.injEq, Prod.mk.injEq] at h
    obtain ⟨rfl, rfl⟩ := h
    simp only [Nat.ble_eq] at hc
    refine Goes.weakPre (Weak.fix xok FRh S) (Goes.pre (keepOf [3, 4, 5]) ?_)
    rw [seenS_mask hs]
    have hL : ∀ b ∈ loopsOf (loopAt 8 0), LoopOk X0 (atL 8 LSRI noL) b := by
      rw [ids8.2.2.2.2]
      intro b hb
      rw [List.mem_singleton] at hb
      subst hb
      exact atL_ok (fun _ => LSRI_ok) fun h => absurd ids8.2.2.1 h
    cases l with
    | nil =>
      refine loop_all (Sf := fun _ => sRB0 [] 0) (n := 0) (by simp) (fun j hj => by omega) ?_
      exact (goes_ofZ tLs_ok (noTL_ok _ _) hL ((bRB0 [] 0).trans (show _ = some (.exit 0, sRB0 [] 0) by rw [lt_f (by simp)]; rfl))).post (keepOf [4])
    | cons x t =>
      refine loop_all (Sf := SRB (x :: t)) (n := (x :: t).length) (S1 := rRB (x :: t)) (by simp) (fun i hi => ?_) ?_
      · cases i with
        | zero =>
          refine goes_ofZ tLs_ok (noTL_ok _ _) hL ((bRB0 (x :: t) 0).trans ?_)
          rw [lt_t hi, ix_t hi]
          rfl
        | succ i =>
          refine goes_ofZ tLs_ok (noTL_ok _ _) hL ((bRB_step (x :: t) _ (i + 1) hi hc (oR_len _ _ (by omega))).trans ?_)
          rw [← oR_succ hi]
          rfl
      · have he : SRB (x :: t) (x :: t).length = sRB (x :: t) (docR (x :: t)) ((x :: t).length : Nat) := by
          show sRB (x :: t) (oR (x :: t) (t.length + 1)) _ = _
          unfold oR
          rw [List.take_of_length_le (by simp)]
          rfl
        rw [he]
        have h1 := bRB (x :: t) (docR (x :: t)) (x :: t).length
        simp only at h1
        rw [lt_f (by omega)] at h1
        exact (goes_ofZ tLs_ok (noTL_ok _ _) hL h1).post (keepOf [4])
  · simp at h
end Go.Proofs.Ytcfdmfijlaafkaa

/-
  THE REFERENCES OF AN EXPRESSION, by the document: suretyref15.Of's contract; what comes of it, plainly.
-/

namespace Go.Proofs.Ytcfdmfijlaafkaa
open Go.Eng

set_option maxRecDepth 100000

-- all of it

def tOf (n : Nat) : Eng.Told Pl := tell 18 (p2T fun a b => .bool (docK a b)) (tell 17 (pAll n) tell0)
theorem eOf (e : ExprR) (n : Nat) : evF (tOf n) noTL (atL 4 LSRB (atL 8 LSRI noL)) 1 Try.f8 [.agg (cExpr e)] =
    ck_ (Nat.blt (esz (etaE e)) n && okA [] (etaE e)) (ck_ (Nat.ble ((allR n [] (etaE e)).length * 32) big) (bif (allR n [] (etaE e)).isEmpty then some .nilS else some (.pl (pRefs (docR (allR n [] (etaE e)))) .any))) := by kernel_rfl
/-- The references of an expression. -/
def ofD (e : ExprR) : List RefR := docR (allR (esz e + 1) [] e)
theorem of_sound (e : ExprR) (h : okA [] e = true) : Snd 8 [.agg (cExpr e)] (.pl (pRefs (ofD e)) .any) := by
  have hT : TOk (tOf (esz e + 1)) := tell_ok (p2T_ok less_sound) (tell_ok (pAll_ok fun b x hx hb => all_n _ b x hx hb) (tell0_ok _))
  have hLs : ∀ i, i < (loopsAt 8).length → LoopOk X0 (atL 4 LSRB (atL 8 LSRI noL)) (loopAt 8 i) :=
    loops_2 ids8.1 (atL_ok (fun _ => LSRB_ok) fun h => absurd ids8.2.1 h) (atL_ok (fun h => absurd (ids8.2.2.1.symm.trans h) (by decide)) fun _ => atL_ok (fun _ => LSRI_ok) fun h => absurd ids8.2.2.1 h)
  have go := fun {d} (h : _ = some d) => snd_fn (n := 1) hT (noTL_ok _ _) (f := 8) (fn := Try.f8) (by kernel_rfl) (loops_of (f := 8) (fn := Try.f8) (by kernel_rfl) hLs) ((eOf e (esz e + 1)).trans h)
  have h1 := allR_len (esz e + 1) [] e
  have h2 := okA_of h
  have hbig : big = 140737488355328 := rfl
  rw [etaE_eq, ck_t (by rw [blt_t (Nat.lt_succ_self _), h]; rfl), ck_t (ble_t (by omega))] at go
  unfold ofD
  cases hl : (allR (esz e + 1) [] e).isEmpty with
  | true =>
    rw [hl] at go
    rw [List.isEmpty_iff.1 hl]
    exact (go rfl).post (RDle.of (.nil _ rfl))
  | false =>
    rw [hl] at go
    exact go rfl

-- what comes of it, plainly

theorem atR_map (o : List RefR) (x : RefR) : atR o x = atK (o.map rt) (rt x) := by
  unfold atR atK
  rw [List.takeWhile_map, List.length_map]
  rfl
theorem rt_inj {a b : RefR} (h : rt a = rt b) : a = b := by
  obtain ⟨a1, a2⟩ := a
  obtain ⟨b1, b2⟩ := b
  unfold rt at h
  simp only [Prod.mk.injEq] at h
  obtain ⟨rfl, rfl⟩ := h
  rfl
theorem eqRr_iff (a b : RefR) : eqRr a b = true ↔ a = b := by
  unfold eqRr
  rw [Bool.and_true, Bool.and_eq_true, beq_iff_eq, beq_iff_eq]
  exact ⟨fun h => rt_inj (Prod.ext h.1 h.2), fun h => by rw [h]; exact ⟨rfl, rfl⟩⟩
theorem isR_has {o : List RefR} (h : Strict (o.map rt)) (x : RefR) : isR o x = hasK (o.map rt) (rt x) := by
  have hab := List.takeWhile_append_dropWhile (p := fun y => docK y (rt x)) (l := o.map rt)
  have hd := (take_at (o.map rt) (rt x)).2
  cases hk : hasK (o.map rt) (rt x) with
  | true =>
    have hm := (hasK_iff _ _).1 hk
    rw [← hab, List.mem_append] at hm
    have hnA : rt x ∉ (o.map rt).takeWhile (fun y => docK y (rt x)) := fun hx => by
      have : docK (rt x) (rt x) = true := List.all_eq_true.1 (List.all_takeWhile (p := fun y => docK y (rt x)) (l := o.map rt)) _ hx
      rw [← lessK_eq, less_irr] at this
      cases this
    have hB := hm.resolve_left hnA
    have hs : Strict ((o.map rt).dropWhile (fun y => docK y (rt x))) := by
      have h' := h
      rw [← hab] at h'
      exact (List.pairwise_append.1 h').2.1
    have hlt : atR o x < o.length := by
      rw [atR_map]
      rcases Nat.lt_or_ge (atK (o.map rt) (rt x)) o.length with h | h
      · exact h
      · rw [← hd, List.drop_eq_nil_of_le (by simpa using h)] at hB
        simp at hB
    unfold isR
    rw [decide_eq_true (by omega), cond_true, eqRr_iff]
    have hg : (o.map rt).drop (atR o x) = rt (o.getD (atR o x) default) :: (o.map rt).drop (atR o x + 1) := by
      rw [List.drop_eq_getElem_cons (by simpa using hlt), List.getD_eq_getElem?_getD, List.getElem?_eq_getElem hlt]
      simp
    rw [atR_map] at hg ⊢
    rw [hd] at hg
    rw [hg] at hB hs
    rcases List.mem_cons.1 hB with e | e
    · exact (rt_inj e).symm
    · have h1 := (List.pairwise_cons.1 hs).1 _ e
      have h2 : docK (rt (o.getD (atK (o.map rt) (rt x)) default)) (rt x) = false := dropWhile_head (p := fun y => docK y (rt x)) hg
      rw [← lessK_eq, h1] at h2
      cases h2
  | false =>
    cases hi : isR o x with
    | false => rfl
    | true =>
      unfold isR at hi
      by_cases hlt : atR o x < o.length
      · rw [decide_eq_true (by omega), cond_true, eqRr_iff] at hi
        have : rt x ∈ o.map rt := List.mem_map.2 ⟨_, getD_mem hlt, by rw [hi]⟩
        rw [(hasK_iff _ _).2 this] at hk
        cases hk
      · rw [decide_eq_false (by omega)] at hi; cases hi
theorem insR_map {o : List RefR} (h : Strict (o.map rt)) (x : RefR) : (insR o x).map rt = insK (o.map rt) (rt x) := by
  unfold insR insK
  rw [isR_has h, ← atR_map]
  cases hasK (o.map rt) (rt x) with
  | true => rfl
  | false => simp [List.map_take, List.map_drop]
theorem docR_from : ∀ (l : List AskedR) (o : List RefR), Strict (o.map rt) → (l.foldl (fun o x => insR o x.r) o).map rt = (l.map fun x => rt x.r).foldl insK (o.map rt)
  | [], _, _ => rfl
  | x :: r, o, h => by
    have h1 := insR_map h x.r
    rw [List.foldl_cons, List.map_cons, List.foldl_cons, ← h1]
    exact docR_from r _ (by rw [h1]; exact (insK_ok h _).1)
theorem docR_map (l : List AskedR) : (docR l).map rt = docS (l.map fun x => rt x.r) := docR_from l [] List.Pairwise.nil
theorem rf_rt (l : List RefR) : (l.map rt).map (fun x => (⟨x.1, x.2⟩ : RefR)) = l := by
  rw [List.map_map]
  exact List.map_id _
end Go.Proofs.Ytcfdmfijlaafkaa

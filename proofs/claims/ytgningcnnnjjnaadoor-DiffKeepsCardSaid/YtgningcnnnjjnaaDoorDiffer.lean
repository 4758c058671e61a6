/-
  WHICH ATTRIBUTES DIFFER, by the program and by the document: what the code computes.
-/
import Derived.Test.YtgningcnnnjjnaaDoorAttr
namespace Go.Proofs.YtgningcnnnjjnaaDoor
open Go.Eng

set_option maxRecDepth 100000

/-- Do two values differ in this name? -/
def dif (a b : Val) (nm : Str) : Bool := !(sameV (etaV (elemV (etaV a) nm)) (etaV (elemV (etaV b) nm)) false)
def gC (q : AttrR → Bool) (a b : Val) (l : List AttrR) (i : Nat) : Option Str := bif (bif q (l.getD i default) then dif a b (l.getD i default).name else false) then some (l.getD i default).name else none
def chg (q : AttrR → Bool) (a b : Val) (l : List AttrR) : List Str := (List.range l.length).filterMap (gC q a b l)

def pSt (f : Str → Bool × D Pl) : List (D Pl) → Option (Bool × D Pl)
  | [.str t] => some (f t)
  | _ => none
theorem pSt_ok {g : FuncId} {f : Str → Bool × D Pl} (h : ∀ t, (f t).1 = true → Snd g [.str t] (f t).2) : ∀ ds b d, pSt f ds = some (b, d) → b = true → Snd g ds d := by
  intro ds b d hp hb
  unfold pSt at hp
  split at hp
  · simp only [Option.some.injEq] at hp
    have h1 := h _ (by rw [hp]; exact hb)
    rw [hp] at h1
    exact h1
  · simp at hp

-- the document's

def tDoc : Eng.Told Pl := tell 29 (pSt fun t => (true, .pl (pAttrs (attrsV t)) .any)) (tell 30 (pvs fun v k => (true, .agg (cV (elemV v k)))) (tSame tell0))
theorem tDoc_ok : TOk tDoc := tell_ok (pSt_ok fun t _ => Attrs_sound t) (tell_ok (pvs_ok fun v k _ => Element_sound v k) (tSame_ok (tell0_ok _)))

def notC (x : AttrR) : Bool := !x.comp

def f14a (a b : Val) (l : List AttrR) (i : Int) : St Pl := mkS 51 [(4, .ptr 4 0), (5, .ptr 5 0), (6, .nilS), (7, .pl (pAttrs l) .any), (8, .nilS), (9, dI i)] [(5, .box false (cV b)), (4, .box false (cV a))]
def f14b (a b : Val) (l : List AttrR) (acc : List Str) (i : Int) : St Pl := mkS 51 [(4, .ptr 4 0), (5, .ptr 5 0), (6, .nilS), (7, .pl (pAttrs l) .any), (8, .arr 49), (9, dI i)] [(49, .arr false (pStrs acc)), (5, .box false (cV b)), (4, .box false (cV a))]

theorem b14a (a b : Val) (l : List AttrR) (i : Nat) : evD tDoc noTL noL 1 (loopAt 14 0) [4, 5, 6, 7, 8, 9] [48] (f14a a b l i) =
    lt_ i l.length (ix_ i l.length (ck_ ((true && decide ((i : Int) < (l.length : Int))) || !(notC (l.getD i default) == true)) (bif (notC (l.getD i default) == true) then ix_ i l.length (bif dif a b (l.getD i default).name then ix_ i l.length (some (.normal, f14b a b l [(l.getD i default).name] (IntKind.i64.wrap ((i : Int) + 1)))) else some (.normal, f14a a b l (IntKind.i64.wrap ((i : Int) + 1))))
      else ck_ ((true && decide ((i : Int) < (l.length : Int))) || true) (some (.normal, f14a a b l (IntKind.i64.wrap ((i : Int) + 1))))))) (some (.exit 0, f14a a b l i)) := by kernel_rfl

theorem b14b (a b : Val) (l : List AttrR) (acc : List Str) (i : Nat) : evD tDoc noTL noL 1 (loopAt 14 0) [4, 5, 6, 7, 8, 9] [48] (f14b a b l acc i) =
    lt_ i l.length (ix_ i l.length (ck_ ((true && decide ((i : Int) < (l.length : Int))) || !(notC (l.getD i default) == true)) (bif (notC (l.getD i default) == true) then ix_ i l.length (bif dif a b (l.getD i default).name then ix_ i l.length (ck_ (Nat.ble ((acc.length + 1) * 16) big) (some (.normal, f14b a b l (acc ++ [(l.getD i default).name]) (IntKind.i64.wrap ((i : Int) + 1))))) else some (.normal, f14b a b l acc (IntKind.i64.wrap ((i : Int) + 1))))
      else ck_ ((true && decide ((i : Int) < (l.length : Int))) || true) (some (.normal, f14b a b l acc (IntKind.i64.wrap ((i : Int) + 1))))))) (some (.exit 0, f14b a b l acc i)) := by kernel_rfl

-- the program's

def pQ (q : AttrR → Bool) : List (D Pl) → Option (Bool × D Pl)
  | [.agg cs] => match dA cs with
    | some x => some (true, .bool (q x))
    | none => none
  | _ => none

theorem dA_eq {cs : List (D Pl)} {r : AttrR} (h : dA cs = some r) : cs = cA r := by
  unfold dA at h
  split at h
  · simp only [Option.some.injEq] at h; subst h; rfl
  · simp at h

theorem pQ_ok {g : FuncId} {q : AttrR → Bool} (h : ∀ x, Snd g [.agg (cA x)] (.bool (q x))) : ∀ ds b d, pQ q ds = some (b, d) → b = true → Snd g ds d := by
  intro ds b d hp hb
  unfold pQ at hp
  split at hp
  · split at hp
    · rename_i hr
      simp only [Option.some.injEq, Prod.mk.injEq] at hp
      obtain ⟨_, rfl⟩ := hp
      rw [dA_eq hr]
      exact h _
    · simp at hp
  · simp at hp

def anewC (x : AttrR) : Bool := bif !x.comp then x.anew else false

theorem e34 (x : AttrR) : ev tell0 noTL 1 34 [.agg (cA x)] = some (.bool (anewC x)) := by kernel_rfl
theorem e35 (x : AttrR) : ev tell0 noTL 1 35 [.agg (cA x)] = some (.bool (notC x)) := by kernel_rfl

def tPro (g : FuncId) (q : AttrR → Bool) : Eng.Told Pl := tell g (pQ q) (tell 42 (pSt fun t => (true, .pl (pAttrs (attrsV t)) .any)) (tell 44 (pvs fun v k => (true, .agg (cV (elemV v k)))) (tell 43 (pvv fun a b => (true, .bool (sameV a b false))) tell0)))
theorem tPro_ok {g : FuncId} {q : AttrR → Bool} (h : ∀ x, Snd g [.agg (cA x)] (.bool (q x))) : TOk (tPro g q) :=
  tell_ok (pQ_ok h) (tell_ok (pSt_ok fun t _ => attrs_sound t) (tell_ok (pvs_ok fun v k _ => element_sound v k) (tell_ok (pvv_ok fun a b _ => like_sound a b) (tell0_ok _))))

def f33a (g : FuncId) (a b : Val) (l : List AttrR) (i : Int) : St Pl := mkS 41 [(3, .fn g []), (5, .ptr 5 0), (6, .ptr 6 0), (8, .nilS), (9, .nilS), (13, .pl (pAttrs l) .any), (14, dI l.length), (15, dI i)] [(6, .box false (cV b)), (5, .box false (cV a))]
def f33b (g : FuncId) (a b : Val) (l : List AttrR) (acc : List Str) (i : Int) : St Pl := mkS 41 [(3, .fn g []), (5, .ptr 5 0), (6, .ptr 6 0), (8, .nilS), (9, .arr 38), (13, .pl (pAttrs l) .any), (14, dI l.length), (15, dI i)] [(38, .arr false (pStrs acc)), (6, .box false (cV b)), (5, .box false (cV a))]

theorem b33a_34 (q : AttrR → Bool) (a b : Val) (l : List AttrR) (i : Nat) : evD (tPro 34 q) noTL noL 1 (loopAt 33 0) [3, 5, 6, 8, 9, 13, 14, 15] [11, 37] (f33a 34 a b l i) =
    lt_ i l.length (ix_ i l.length (bif (q (l.getD i default) == true) then (bif dif a b (l.getD i default).name then some (.normal, f33b 34 a b l [(l.getD i default).name] (IntKind.i64.wrap ((i : Int) + 1))) else some (.normal, f33a 34 a b l (IntKind.i64.wrap ((i : Int) + 1)))) else some (.normal, f33a 34 a b l (IntKind.i64.wrap ((i : Int) + 1))))) (some (.exit 0, f33a 34 a b l i)) := by kernel_rfl

theorem b33b_34 (q : AttrR → Bool) (a b : Val) (l : List AttrR) (acc : List Str) (i : Nat) : evD (tPro 34 q) noTL noL 1 (loopAt 33 0) [3, 5, 6, 8, 9, 13, 14, 15] [11, 37] (f33b 34 a b l acc i) =
    lt_ i l.length (ix_ i l.length (bif (q (l.getD i default) == true) then (bif dif a b (l.getD i default).name then ck_ (Nat.ble ((acc.length + 1) * 16) big) (some (.normal, f33b 34 a b l (acc ++ [(l.getD i default).name]) (IntKind.i64.wrap ((i : Int) + 1)))) else some (.normal, f33b 34 a b l acc (IntKind.i64.wrap ((i : Int) + 1)))) else some (.normal, f33b 34 a b l acc (IntKind.i64.wrap ((i : Int) + 1))))) (some (.exit 0, f33b 34 a b l acc i)) := by kernel_rfl

theorem b33a_35 (q : AttrR → Bool) (a b : Val) (l : List AttrR) (i : Nat) : evD (tPro 35 q) noTL noL 1 (loopAt 33 0) [3, 5, 6, 8, 9, 13, 14, 15] [11, 37] (f33a 35 a b l i) =
    lt_ i l.length (ix_ i l.length (bif (q (l.getD i default) == true) then (bif dif a b (l.getD i default).name then some (.normal, f33b 35 a b l [(l.getD i default).name] (IntKind.i64.wrap ((i : Int) + 1))) else some (.normal, f33a 35 a b l (IntKind.i64.wrap ((i : Int) + 1)))) else some (.normal, f33a 35 a b l (IntKind.i64.wrap ((i : Int) + 1))))) (some (.exit 0, f33a 35 a b l i)) := by kernel_rfl

theorem b33b_35 (q : AttrR → Bool) (a b : Val) (l : List AttrR) (acc : List Str) (i : Nat) : evD (tPro 35 q) noTL noL 1 (loopAt 33 0) [3, 5, 6, 8, 9, 13, 14, 15] [11, 37] (f33b 35 a b l acc i) =
    lt_ i l.length (ix_ i l.length (bif (q (l.getD i default) == true) then (bif dif a b (l.getD i default).name then ck_ (Nat.ble ((acc.length + 1) * 16) big) (some (.normal, f33b 35 a b l (acc ++ [(l.getD i default).name]) (IntKind.i64.wrap ((i : Int) + 1)))) else some (.normal, f33b 35 a b l acc (IntKind.i64.wrap ((i : Int) + 1)))) else some (.normal, f33b 35 a b l acc (IntKind.i64.wrap ((i : Int) + 1))))) (some (.exit 0, f33b 35 a b l acc i)) := by kernel_rfl

-- the document's, whole

theorem ids14 : (loopsAt 14).length = 1 ∧ firstId (loopAt 14 0) = 4 ∧ loopsOf (loopAt 14 0) = [] := ⟨by kernel_rfl, by kernel_rfl, by kernel_rfl⟩
theorem ids33 : (loopsAt 33).length = 1 ∧ firstId (loopAt 33 0) = 3 ∧ loopsOf (loopAt 33 0) = [] := ⟨by kernel_rfl, by kernel_rfl, by kernel_rfl⟩

def r14a (a b : Val) (l : List AttrR) : St Pl := mkS 51 [(4, .ptr 4 0), (5, .ptr 5 0), (6, .nilS), (7, .pl (pAttrs l) .any), (8, .nilS)] [(5, .box false (cV b)), (4, .box false (cV a))]
def r14b (a b : Val) (l : List AttrR) (acc : List Str) : St Pl := mkS 51 [(4, .ptr 4 0), (5, .ptr 5 0), (6, .nilS), (7, .pl (pAttrs l) .any), (8, .arr 49)] [(49, .arr false (pStrs acc)), (5, .box false (cV b)), (4, .box false (cV a))]

def LS14 (S : St Pl) : Option (Bool × LR Pl) := match seenS 51 [4, 5, 6, 7, 8, 9] S with
  | some ([.ptr 4 0, .ptr 5 0, .nilS, .pl ⟨.attrs, l⟩ .any, .nilS, .int .i64 (.ofNat 0)], [(5, .box false cb), (4, .box false ca)]) => (match exV ca, exV cb with
    | some a, some b => some (Nat.ble (l.length * 40) big, .ite (chg notC a b l).isEmpty (.leaf (.exit 0) (r14a a b l)) (.leaf (.exit 0) (r14b a b l (chg notC a b l))))
    | _, _ => none)
  | _ => none

theorem gC_none {q : AttrR → Bool} {a b : Val} {l : List AttrR} {i : Nat} (h : q (l.getD i default) = false) : gC q a b l i = none := by unfold gC; rw [h]; rfl
theorem gC_dif {q : AttrR → Bool} {a b : Val} {l : List AttrR} {i : Nat} (h : q (l.getD i default) = true) : gC q a b l i = bif dif a b (l.getD i default).name then some (l.getD i default).name else none := by unfold gC; rw [h]; rfl

theorem LS14_ok : SOk X0 (loopAt 14 0) LS14 := by
  intro S c r h hc
  unfold LS14 at h
  split at h
  · rename_i l cb ca hs
    split at h
    · rename_i a b hca hcb
      simp only [Option.some.injEq, Prod.mk.injEq] at h
      obtain ⟨rfl, rfl⟩ := h
      simp only [Nat.ble_eq] at hc
      obtain rfl := exV_eq hca
      obtain rfl := exV_eq hcb
      refine Goes.pre (keepOf [4, 5, 6, 7, 8, 9]) ?_
      rw [seenS_mask hs]
      have hor : ∀ x : Bool, (x || true) = true := fun x => by cases x <;> rfl
      refine loop_filter (n := l.length) (E0 := r14a a b l) (E1 := r14b a b l) (fun i => f14a a b l i) (fun acc i => f14b a b l acc i) (gC notC a b l) (by simp) (fun i hi => ?_) (fun i acc hi ha => ?_) ?_ (fun acc => ?_)
      · have he := b14a a b l i
        rw [lt_t hi, ix_t hi, ck_t (by rw [decide_eq_true (show (i : Int) < (l.length : Int) by omega)]; rfl), ck_t (hor _), ix_t hi, ix_t hi, wrap_nat (show i ≤ big by omega)] at he
        cases hq : notC (l.getD i default) with
        | false => rw [hq] at he; rw [gC_none hq]; exact goes_ofD tDoc_ok (noTL_ok _ _) (noLoops ids14.2.2) he
        | true =>
          rw [hq] at he
          rw [gC_dif hq]
          cases hd : dif a b (l.getD i default).name with
          | false => rw [hd] at he; exact goes_ofD tDoc_ok (noTL_ok _ _) (noLoops ids14.2.2) he
          | true => rw [hd] at he; exact goes_ofD tDoc_ok (noTL_ok _ _) (noLoops ids14.2.2) he
      · have he := b14b a b l acc i
        rw [lt_t hi, ix_t hi, ck_t (by rw [decide_eq_true (show (i : Int) < (l.length : Int) by omega)]; rfl), ck_t (hor _), ix_t hi, ix_t hi, wrap_nat (show i ≤ big by omega), ck_t (ble_t (by omega))] at he
        cases hq : notC (l.getD i default) with
        | false => rw [hq] at he; rw [gC_none hq]; exact goes_ofD tDoc_ok (noTL_ok _ _) (noLoops ids14.2.2) he
        | true =>
          rw [hq] at he
          rw [gC_dif hq]
          cases hd : dif a b (l.getD i default).name with
          | false => rw [hd] at he; exact goes_ofD tDoc_ok (noTL_ok _ _) (noLoops ids14.2.2) he
          | true => rw [hd] at he; exact goes_ofD tDoc_ok (noTL_ok _ _) (noLoops ids14.2.2) he
      · exact (goes_ofD tDoc_ok (noTL_ok _ _) (noLoops ids14.2.2) ((b14a a b l l.length).trans (show _ = some (.exit 0, f14a a b l l.length) by rw [lt_f (by omega)]))).post (keepOf [4, 5, 6, 7, 8])
      · exact (goes_ofD tDoc_ok (noTL_ok _ _) (noLoops ids14.2.2) ((b14b a b l acc l.length).trans (show _ = some (.exit 0, f14b a b l acc l.length) by rw [lt_f (by omega)]))).post (keepOf [4, 5, 6, 7, 8])
    · simp at h
  · simp at h

theorem attrs_len (t : Str) : (attrsV t).length ≤ 7 := by
  unfold attrsV
  cases t == a_disk <;> cases t == a_node <;> cases t == a_note <;> cases t == a_rule <;> decide

theorem e14 (t : Str) (a b : Val) : evF tDoc noTL (atL 4 LS14 noL) 1 Tryd.f14 [.str t, .agg (cV a), .agg (cV b)] =
    ck_ (Nat.ble ((attrsV t).length * 40) big) (bif (chg notC (etaV a) (etaV b) (attrsV t)).isEmpty then some .nilS else some (.pl (pStrs (chg notC (etaV a) (etaV b) (attrsV t))) .any)) := by kernel_rfl

theorem Changed_sound (t : Str) (a b : Val) : Snd 14 [.str t, .agg (cV a), .agg (cV b)] (.pl (pStrs (chg notC a b (attrsV t))) .any) := by
  have he := e14 t a b
  have hlen := attrs_len t
  have hbig : big = 140737488355328 := rfl
  rw [etaV_eq, etaV_eq, ck_t (ble_t (by omega))] at he
  have hL := loops_of (f := 14) (L := atL 4 LS14 noL) (fn := Tryd.f14) (by kernel_rfl) (loops_1 ids14.1 (atL_ok (fun _ => LS14_ok) fun h => absurd ids14.2.1 h))
  cases h : (chg notC a b (attrsV t)).isEmpty with
  | true =>
    rw [h] at he
    have : chg notC a b (attrsV t) = [] := by simpa using h
    rw [this]
    exact (snd_fn (n := 1) tDoc_ok (noTL_ok _ _) (fn := Tryd.f14) (by kernel_rfl) hL he).post (RDle.of (.nil _ rfl))
  | false =>
    rw [h] at he
    exact snd_fn (n := 1) tDoc_ok (noTL_ok _ _) (fn := Tryd.f14) (by kernel_rfl) hL he

-- the program's, whole

def r33a (g : FuncId) (a b : Val) : St Pl := mkS 41 [(3, .fn g []), (5, .ptr 5 0), (6, .ptr 6 0), (8, .nilS), (9, .nilS)] [(6, .box false (cV b)), (5, .box false (cV a))]
def r33b (g : FuncId) (a b : Val) (acc : List Str) : St Pl := mkS 41 [(3, .fn g []), (5, .ptr 5 0), (6, .ptr 6 0), (8, .nilS), (9, .arr 38)] [(38, .arr false (pStrs acc)), (6, .box false (cV b)), (5, .box false (cV a))]

def LS33 (g : FuncId) (q : AttrR → Bool) (S : St Pl) : Option (Bool × LR Pl) := match seenS 41 [3, 5, 6, 8, 9, 13, 14, 15] S with
  | some ([.fn g' [], .ptr 5 0, .ptr 6 0, .nilS, .nilS, .pl ⟨.attrs, l⟩ .any, .int .i64 k, .int .i64 (.ofNat 0)], [(6, .box false cb), (5, .box false ca)]) => (match exV ca, exV cb with
    | some a, some b => some (Nat.beq g' g && (k == (l.length : Int) && Nat.ble (l.length * 40) big), .ite (chg q a b l).isEmpty (.leaf (.exit 0) (r33a g a b)) (.leaf (.exit 0) (r33b g a b (chg q a b l))))
    | _, _ => none)
  | _ => none

theorem LS33_ok {g : FuncId} {q : AttrR → Bool} (hT : TOk (tPro g q))
    (ha : ∀ a b l (i : Nat), evD (tPro g q) noTL noL 1 (loopAt 33 0) [3, 5, 6, 8, 9, 13, 14, 15] [11, 37] (f33a g a b l i) =
      lt_ i l.length (ix_ i l.length (bif (q (l.getD i default) == true) then (bif dif a b (l.getD i default).name then some (.normal, f33b g a b l [(l.getD i default).name] (IntKind.i64.wrap ((i : Int) + 1))) else some (.normal, f33a g a b l (IntKind.i64.wrap ((i : Int) + 1)))) else some (.normal, f33a g a b l (IntKind.i64.wrap ((i : Int) + 1))))) (some (.exit 0, f33a g a b l i)))
    (hb : ∀ a b l acc (i : Nat), evD (tPro g q) noTL noL 1 (loopAt 33 0) [3, 5, 6, 8, 9, 13, 14, 15] [11, 37] (f33b g a b l acc i) =
      lt_ i l.length (ix_ i l.length (bif (q (l.getD i default) == true) then (bif dif a b (l.getD i default).name then ck_ (Nat.ble ((acc.length + 1) * 16) big) (some (.normal, f33b g a b l (acc ++ [(l.getD i default).name]) (IntKind.i64.wrap ((i : Int) + 1)))) else some (.normal, f33b g a b l acc (IntKind.i64.wrap ((i : Int) + 1)))) else some (.normal, f33b g a b l acc (IntKind.i64.wrap ((i : Int) + 1))))) (some (.exit 0, f33b g a b l acc i))) :
    SOk X0 (loopAt 33 0) (LS33 g q) := by
  intro S c r h hc
  unfold LS33 at h
  split at h
  · rename_i g' l k cb ca hs
    split at h
    · rename_i a b hca hcb
      simp only [Option.some.injEq, Prod.mk.injEq] at h
      obtain ⟨rfl, rfl⟩ := h
      simp only [Bool.and_eq_true, Nat.ble_eq, beq_iff_eq] at hc
      obtain ⟨hg, rfl, hc⟩ := hc
      obtain rfl := Nat.eq_of_beq_eq_true hg
      obtain rfl := exV_eq hca
      obtain rfl := exV_eq hcb
      refine Goes.pre (keepOf [3, 5, 6, 8, 9, 13, 14, 15]) ?_
      rw [seenS_mask hs]
      refine loop_filter (n := l.length) (E0 := r33a g' a b) (E1 := r33b g' a b) (fun i => f33a g' a b l i) (fun acc i => f33b g' a b l acc i) (gC q a b l) (by simp) (fun i hi => ?_) (fun i acc hi hacc => ?_) ?_ (fun acc => ?_)
      · have he := ha a b l i
        rw [lt_t hi, ix_t hi, wrap_nat (show i ≤ big by omega)] at he
        cases hq : q (l.getD i default) with
        | false => rw [hq] at he; rw [gC_none hq]; exact goes_ofD hT (noTL_ok _ _) (noLoops ids33.2.2) he
        | true =>
          rw [hq] at he
          rw [gC_dif hq]
          cases hd : dif a b (l.getD i default).name with
          | false => rw [hd] at he; exact goes_ofD hT (noTL_ok _ _) (noLoops ids33.2.2) he
          | true => rw [hd] at he; exact goes_ofD hT (noTL_ok _ _) (noLoops ids33.2.2) he
      · have he := hb a b l acc i
        rw [lt_t hi, ix_t hi, wrap_nat (show i ≤ big by omega), ck_t (ble_t (by omega))] at he
        cases hq : q (l.getD i default) with
        | false => rw [hq] at he; rw [gC_none hq]; exact goes_ofD hT (noTL_ok _ _) (noLoops ids33.2.2) he
        | true =>
          rw [hq] at he
          rw [gC_dif hq]
          cases hd : dif a b (l.getD i default).name with
          | false => rw [hd] at he; exact goes_ofD hT (noTL_ok _ _) (noLoops ids33.2.2) he
          | true => rw [hd] at he; exact goes_ofD hT (noTL_ok _ _) (noLoops ids33.2.2) he
      · exact (goes_ofD hT (noTL_ok _ _) (noLoops ids33.2.2) ((ha a b l l.length).trans (show _ = some (.exit 0, f33a g' a b l l.length) by rw [lt_f (by omega)]))).post (keepOf [3, 5, 6, 8, 9])
      · exact (goes_ofD hT (noTL_ok _ _) (noLoops ids33.2.2) ((hb a b l acc l.length).trans (show _ = some (.exit 0, f33b g' a b l acc l.length) by rw [lt_f (by omega)]))).post (keepOf [3, 5, 6, 8, 9])
    · simp at h
  · simp at h

theorem e33_34 (q : AttrR → Bool) (t : Str) (a b : Val) : evF (tPro 34 q) noTL (atL 3 (LS33 34 q) noL) 1 Tryd.f33 [.str t, .agg (cV a), .agg (cV b), .fn 34 []] =
    ck_ (true && ((((attrsV t).length : Int) == ((attrsV t).length : Int)) && Nat.ble ((attrsV t).length * 40) big)) (bif (chg q (etaV a) (etaV b) (attrsV t)).isEmpty then some .nilS else some (.pl (pStrs (chg q (etaV a) (etaV b) (attrsV t))) .any)) := by kernel_rfl
theorem e33_35 (q : AttrR → Bool) (t : Str) (a b : Val) : evF (tPro 35 q) noTL (atL 3 (LS33 35 q) noL) 1 Tryd.f33 [.str t, .agg (cV a), .agg (cV b), .fn 35 []] =
    ck_ (true && ((((attrsV t).length : Int) == ((attrsV t).length : Int)) && Nat.ble ((attrsV t).length * 40) big)) (bif (chg q (etaV a) (etaV b) (attrsV t)).isEmpty then some .nilS else some (.pl (pStrs (chg q (etaV a) (etaV b) (attrsV t))) .any)) := by kernel_rfl

theorem differ_of {g : FuncId} {q : AttrR → Bool} (hT : TOk (tPro g q)) (hS : SOk X0 (loopAt 33 0) (LS33 g q)) (t : Str) (a b : Val)
    (he : evF (tPro g q) noTL (atL 3 (LS33 g q) noL) 1 Tryd.f33 [.str t, .agg (cV a), .agg (cV b), .fn g []] =
      ck_ (true && ((((attrsV t).length : Int) == ((attrsV t).length : Int)) && Nat.ble ((attrsV t).length * 40) big)) (bif (chg q (etaV a) (etaV b) (attrsV t)).isEmpty then some .nilS else some (.pl (pStrs (chg q (etaV a) (etaV b) (attrsV t))) .any))) :
    Snd 33 [.str t, .agg (cV a), .agg (cV b), .fn g []] (.pl (pStrs (chg q a b (attrsV t))) .any) := by
  have hlen := attrs_len t
  have hbig : big = 140737488355328 := rfl
  rw [etaV_eq, etaV_eq, ck_t (by rw [beq_self_eq_true, ble_t (by omega)]; rfl)] at he
  have hL := loops_of (f := 33) (L := atL 3 (LS33 g q) noL) (fn := Tryd.f33) (by kernel_rfl) (loops_1 ids33.1 (atL_ok (fun _ => hS) fun h => absurd ids33.2.1 h))
  cases h : (chg q a b (attrsV t)).isEmpty with
  | true =>
    rw [h] at he
    have : chg q a b (attrsV t) = [] := by simpa using h
    rw [this]
    exact (snd_fn (n := 1) hT (noTL_ok _ _) (fn := Tryd.f33) (by kernel_rfl) hL he).post (RDle.of (.nil _ rfl))
  | false =>
    rw [h] at he
    exact snd_fn (n := 1) hT (noTL_ok _ _) (fn := Tryd.f33) (by kernel_rfl) hL he

theorem t34 : TOk (tPro 34 anewC) := tPro_ok fun x => snd_of (tell0_ok _) (noTL_ok _ _) (e34 x)
theorem t35 : TOk (tPro 35 notC) := tPro_ok fun x => snd_of (tell0_ok _) (noTL_ok _ _) (e35 x)

theorem differ34 (t : Str) (a b : Val) : Snd 33 [.str t, .agg (cV a), .agg (cV b), .fn 34 []] (.pl (pStrs (chg anewC a b (attrsV t))) .any) :=
  differ_of t34 (LS33_ok t34 (fun a b l i => b33a_34 anewC a b l i) (fun a b l acc i => b33b_34 anewC a b l acc i)) t a b (e33_34 anewC t a b)
theorem differ35 (t : Str) (a b : Val) : Snd 33 [.str t, .agg (cV a), .agg (cV b), .fn 35 []] (.pl (pStrs (chg notC a b (attrsV t))) .any) :=
  differ_of t35 (LS33_ok t35 (fun a b l i => b33a_35 notC a b l i) (fun a b l acc i => b33b_35 notC a b l acc i)) t a b (e33_35 notC t a b)

end Go.Proofs.YtgningcnnnjjnaaDoor

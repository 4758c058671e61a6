/-
  THE LAW OF WHAT IS LEFT AS IT WAS: it answers true.
-/
import Derived.Test.YtgningcnnnjjnaaDoorKeep4
import Derived.Test.YtgningcnnnjjnaaDoorChooses
namespace Go.Proofs.YtgningcnnnjjnaaDoor
open Go.Eng

set_option maxRecDepth 100000

def pKp (g : Val → Bool) (f : Val → Val → List Str → Val) : List (D Pl) → Option (Bool × D Pl)
  | [.agg [.str _, .str [], .nilS, .nilP, .nilP, .nilS, .bool false, .bool false, .pl ⟨.strs, ign⟩ .any, .nilS, .nilS, .nilS, .int .i64 (.ofNat 0), .int .i64 (.ofNat 0), .int .i64 (.ofNat 0)], d, e] => match asV d, asV e with
    | some a, some b => some (g a, .agg (cV (f a b ign)))
    | _, _ => none
  | _ => none
theorem pKp_ok {q : FuncId} {g : Val → Bool} {f : Val → Val → List Str → Val} (h : ∀ t a b ign, g a = true → Snd q [.agg (cRI t ign), .agg (cV a), .agg (cV b)] (.agg (cV (f a b ign)))) : ∀ ds b d, pKp g f ds = some (b, d) → b = true → Snd q ds d := by
  intro ds b d hp hb
  unfold pKp at hp
  split at hp
  · rename_i t ign d e
    split at hp
    · rename_i ha hb'
      simp only [Option.some.injEq, Prod.mk.injEq] at hp
      obtain ⟨h1, rfl⟩ := hp
      exact (h t _ _ ign (h1.trans hb)).pre (.cons (RDle.refl _) (.cons (asV_rdle ha) (.cons (asV_rdle hb') .nil)))
    · simp at hp
  · simp at hp

def tL4 (G C : Val → Bool) : Eng.Told Pl := tell 6 (p1 fun v => (true, .bool (G v))) (tell 7 (p1 fun v => (true, .bool (C v))) (tAwake (tell 11 (pKp goodB keepV) (tell 13 (pKp goodB keepV)
  (tSame (tFind (tell 14 (psvv fun t a b => (true, .pl (pStrs (chg notC a b (attrsV t))) .any)) tell0)))))))

def hL4 (t : Str) (g : List Str) (v a b : Val) : Obs Pl := [(10, .box false (cV v)), (9, .box false (cRI t g)), (7, .box false (cV b)), (6, .box false (cV a))]
def sl4 (ign c : List Str) (i : Int) : List (Nat × D Pl) := [(1, .pl (pStrs ign) .any), (6, .ptr 6 0), (7, .ptr 7 0), (8, .bool false), (11, .pl (pStrs c) .any), (12, dI i)]
def s4o (t : Str) (g ign c : List Str) (v a b : Val) (i : Int) : St Pl := mkS 99 (sl4 ign c i) (hL4 t g v a b)
def s4i (t : Str) (g ign c : List Str) (v a b : Val) (i k : Int) : St Pl := mkS 99 (sl4 ign c i ++ [(13, dI k)]) (hL4 t g v a b)

def fB (a : Val) (k : Str) : Bool := decide (fnd a k ≥ 0)
theorem b4i (t : Str) (g ign c : List Str) (v a b : Val) (i k : Nat) : evD (tFind tell0) noTL noL 1 (loopAt 4 1) [1, 6, 7, 8, 11, 12, 13] [] (s4i t g ign c v a b i k) =
    lt_ k ign.length (ix_ i c.length (ix_ k ign.length (ixo_ i c.length ((c.getD i [] == ign.getD k []) == true) (bif ((c.getD i [] == ign.getD k []) == true) then
      ixo_ i c.length ((fB (etaV a) (c.getD i [])) == true) (bif ((fB (etaV a) (c.getD i [])) == true) then (bif fB (etaV b) (c.getD i []) then some (.ret, s4i t g ign c v a b i k) else some (.normal, s4i t g ign c v a b i (nx k)))
        else some (.normal, s4i t g ign c v a b i (nx k)))
      else ixo_ i c.length false (some (.normal, s4i t g ign c v a b i (nx k))))))) (some (.exit 2, s4i t g ign c v a b i k)) := by kernel_rfl

def hit (a b : Val) (x y : Str) : Bool := bif x == y then (bif fB a x then fB b x else false) else false
def noHit (a b : Val) (ign : List Str) (x : Str) : Bool := (List.range ign.length).all fun k => !(hit a b x (ign.getD k []))

def LS4i (S : St Pl) : Option (Bool × LR Pl) := match seenS 99 [1, 6, 7, 8, 11, 12, 13] S with
  | some ([.pl ⟨.strs, ign⟩ .any, .ptr 6 0, .ptr 7 0, .bool false, .pl ⟨.strs, c⟩ .any, .int .i64 (.ofNat i), .int .i64 (.ofNat 0)], [(10, .box false cv), (9, .box false [.str t, .str [], .nilS, .nilP, .nilP, .nilS, .bool false, .bool false, .pl ⟨.strs, g⟩ .any, .nilS, .nilS, .nilS, .int .i64 (.ofNat 0), .int .i64 (.ofNat 0), .int .i64 (.ofNat 0)]),
      (7, .box false cb), (6, .box false ca)]) => (match exV cv, exV cb, exV ca with
    | some v, some b, some a => some (Nat.blt i c.length && (Nat.ble ign.length big && noHit a b ign (c.getD i [])), .leaf (.exit 2) (s4o t g ign c v a b i))
    | _, _, _ => none)
  | _ => none

theorem ids4 : (loopsAt 4).length = 2 ∧ firstId (loopAt 4 0) = 9 ∧ firstId (loopAt 4 1) = 12 ∧ loopsOf (loopAt 4 0) = [loopAt 4 1] ∧ loopsOf (loopAt 4 1) = [] := ⟨by kernel_rfl, by kernel_rfl, by kernel_rfl, by kernel_rfl, by kernel_rfl⟩

theorem LS4i_ok : SOk X0 (loopAt 4 1) LS4i := by
  intro S r h h1 hc
  unfold LS4i at h1
  split at h1
  · rename_i ign c i cv t g cb ca hs
    split at h1
    · rename_i v b a hv hb ha
      simp only [Option.some.injEq, Prod.mk.injEq] at h1
      obtain ⟨rfl, rfl⟩ := h1
      simp only [Bool.and_eq_true, Nat.ble_eq, Nat.blt_eq] at hc
      obtain ⟨hi, hbig, hno⟩ := hc
      unfold noHit at hno
      rw [List.all_eq_true] at hno
      obtain rfl := exV_eq hv
      obtain rfl := exV_eq hb
      obtain rfl := exV_eq ha
      refine Goes.pre (keepOf [1, 6, 7, 8, 11, 12, 13]) ?_
      rw [seenS_mask hs]
      refine all_ofD (tFind_ok (tell0_ok _)) (noLoops (L := noL) ids4.2.2.2.2) (k := 1) (keep := [1, 6, 7, 8, 11, 12, 13]) (lose := []) (keep2 := [1, 6, 7, 8, 11, 12]) (Sf := fun k => s4i t g ign c v a b i k) (n := ign.length) (e1 := .exit 2) (by simp) (fun k hk => ?_) ?_ ?_
      · have hnx : nx k = ((k + 1 : Nat) : Int) := wrap_nat (by omega)
        have hh := hno k (List.mem_range.2 hk)
        rw [b4i, lt_t hk, ix_t hi, ix_t hk, ixo_t hi, ixo_t hi, ixo_t hi, etaV_eq, etaV_eq, hnx]
        unfold hit at hh
        cases hx : c.getD i [] == ign.getD k [] with
        | false => rfl
        | true =>
          rw [hx] at hh
          simp only [cond_true] at hh
          cases hfa : fB a (c.getD i []) with
          | false => rfl
          | true =>
            rw [hfa] at hh
            have hfb : fB b (c.getD i []) = false := by simpa using hh
            rw [hfb]; rfl
      · rw [b4i, lt_f (by omega)]
      · rfl
    · simp at h1
  · simp at h1

theorem b4o (t : Str) (g ign c : List Str) (v a b : Val) (i : Nat) : evD (tFind tell0) noTL (atL 12 LS4i noL) 1 (loopAt 4 0) [1, 6, 7, 8, 11, 12] [] (s4o t g ign c v a b i) =
    lt_ i c.length (ck_ (Nat.blt i c.length && (Nat.ble ign.length big && noHit (etaV a) (etaV b) ign (c.getD i []))) (some (.normal, s4o t g ign c v a b (nx i)))) (some (.exit 0, s4o t g ign c v a b i)) := by kernel_rfl

def r4o (t : Str) (g ign : List Str) (v a b : Val) : St Pl := mkS 99 [(8, .bool false)] (hL4 t g v a b)
def LS4o (S : St Pl) : Option (Bool × LR Pl) := match seenS 99 [1, 6, 7, 8, 11, 12] S with
  | some ([.pl ⟨.strs, ign⟩ .any, .ptr 6 0, .ptr 7 0, .bool false, .pl ⟨.strs, c⟩ .any, .int .i64 (.ofNat 0)], [(10, .box false cv), (9, .box false [.str t, .str [], .nilS, .nilP, .nilP, .nilS, .bool false, .bool false, .pl ⟨.strs, g⟩ .any, .nilS, .nilS, .nilS, .int .i64 (.ofNat 0), .int .i64 (.ofNat 0), .int .i64 (.ofNat 0)]),
      (7, .box false cb), (6, .box false ca)]) => (match exV cv, exV cb, exV ca with
    | some v, some b, some a => some (Nat.ble c.length big && (Nat.ble ign.length big && c.all (noHit a b ign)), .leaf (.exit 0) (r4o t g ign v a b))
    | _, _, _ => none)
  | _ => none

theorem LS4o_ok : SOk X0 (loopAt 4 0) LS4o := by
  intro S r h h1 hc
  unfold LS4o at h1
  split at h1
  · rename_i ign c cv t g cb ca hs
    split at h1
    · rename_i v b a hv hb ha
      simp only [Option.some.injEq, Prod.mk.injEq] at h1
      obtain ⟨rfl, rfl⟩ := h1
      simp only [Bool.and_eq_true, Nat.ble_eq] at hc
      obtain ⟨hcb, hbig, hno⟩ := hc
      rw [List.all_eq_true] at hno
      obtain rfl := exV_eq hv
      obtain rfl := exV_eq hb
      obtain rfl := exV_eq ha
      refine Goes.pre (keepOf [1, 6, 7, 8, 11, 12]) ?_
      rw [seenS_mask hs]
      have hL : ∀ b ∈ loopsOf (loopAt 4 0), LoopOk X0 (atL 12 LS4i noL) b := by
        intro b hb
        rw [ids4.2.2.2.1] at hb
        obtain rfl := List.mem_singleton.1 hb
        exact atL_ok (fun _ => LS4i_ok) fun h => absurd ids4.2.2.1 h
      refine all_ofD (tFind_ok (tell0_ok _)) hL (k := 1) (keep := [1, 6, 7, 8, 11, 12]) (lose := []) (keep2 := [8]) (Sf := fun i => s4o t g ign c v a b i) (n := c.length) (e1 := .exit 0) (by simp) (fun i hi => ?_) ?_ ?_
      · have hnx : nx i = ((i + 1 : Nat) : Int) := wrap_nat (by omega)
        rw [b4o, lt_t hi, etaV_eq, etaV_eq, ck_t (by rw [blt_t hi, ble_t hbig, hno _ (getD_mem hi)]; rfl), hnx]
      · rw [b4o, lt_f (by omega)]
      · rfl
    · simp at h1
  · simp at h1

def kv (a b : Val) (ign : List Str) : Val := etaV (keepV (etaV a) (etaV b) ign)
def rest4 (t : Str) (ign : List Str) (a b : Val) : Option (D Pl) := ck_ (goodB (etaV a)) (ck_ (goodB (etaV a)) (bif !(sameV (kv a b ign) (kv a b ign) true) then no else
  ck_ (Nat.ble (chg notC (kv a b ign) (etaV b) (attrsV t)).length big && (Nat.ble ign.length big && (chg notC (kv a b ign) (etaV b) (attrsV t)).all (noHit (etaV a) (etaV b) ign))) yes))
theorem e4 (G C : Val → Bool) (t : Str) (ign : List Str) (a b : Val) : evF (tL4 G C) noTL (atL 9 LS4o (atL 12 LS4i noL)) 1 Tryd.f4 [.str t, .pl (pStrs ign) .any, .agg (cV a), .agg (cV b)] =
    bif ((bif decide ((t.length : Int) > 100) then true else decide ((ign.length : Int) > 20)) == false) then (bif (G (etaV a) == false) then (bif (G (etaV b) == false) then (bif ((!C (etaV a)) == false) then (bif !C (etaV b) then yes else rest4 t ign a b) else yes) else yes) else yes) else yes := by kernel_rfl

-- plain

theorem from_same (v y : Val) : sameV (fromV v y) y false = true := by
  have := like_eq (fromV v y) y
  rw [this]
  have h2 := like_eq y y
  rw [same_self (vsz y + 1) y false (Nat.lt_succ_self _)] at h2
  exact h2.symm

theorem fold_getD {a b : Val} (h : Good a) {x : Str} (hb : bothF a b x = true) : ∀ (ign : List Str) (l : List Val), l.length = a.l.length → (x ∈ ign ∨ l.getD (posN a.keys x) default = elD b x) →
    (ign.foldl (setK a b) l).getD (posN a.keys x) default = elD b x
  | [], l, _, hx => by
    rcases hx with hx | hx
    · simp at hx
    · exact hx
  | k :: r, l, hl, hx => by
    rw [List.foldl_cons]
    have hk := fnd_kind (bothF_spec hb).1
    have hlen := h.len hk
    have hpx : posN a.keys x < a.keys.length := by have := (fnd_pos (bothF_spec hb).1).1; rwa [keysV_good h hk] at this
    refine fold_getD h hb r _ (by unfold setK; cases bothF a b k <;> simp [hl]) ?_
    by_cases hkx : k = x
    · subst hkx
      refine .inr ?_
      unfold setK
      rw [hb, cond_true, List.getD_eq_getElem?_getD, List.getElem?_set, if_pos rfl, if_pos (by omega)]; rfl
    · rcases hx with hx | hx
      · rcases List.mem_cons.1 hx with hx | hx
        · exact absurd hx.symm hkx
        · exact .inl hx
      · refine .inr ?_
        unfold setK
        cases hbk : bothF a b k with
        | false => exact hx
        | true =>
          have hpk : posN a.keys k < a.keys.length := by have := (fnd_pos (bothF_spec hbk).1).1; rwa [keysV_good h hk] at this
          have hne : posN a.keys k ≠ posN a.keys x := by
            intro he
            have e1 := pos_spec hpk
            have e2 := pos_spec hpx
            rw [he] at e1
            exact hkx (e1.symm.trans e2)
          rw [cond_true, List.getD_eq_getElem?_getD, List.getElem?_set, if_neg hne, ← List.getD_eq_getElem?_getD]
          exact hx

theorem keep_dif {a b : Val} (h : Good a) {ign : List Str} {x : Str} (hx : x ∈ ign) (hb : bothF a b x = true) : dif (keepV a b ign) b x = false := by
  obtain ⟨h1, h2⟩ := bothF_spec hb
  have hk := fnd_kind h1
  have hlen := h.len hk
  have hg : Good (keepV a b ign) := ⟨h.ris, fun hk => by show a.keys.length = _; rw [show (keepV a b ign).l.length = a.l.length from fold_len a b ign a.l]; exact h.len hk, h.big, h.i0, h.s0, h.k0, h.o0⟩
  have hkk : keysV (keepV a b ign) = a.keys := keysV_good hg hk
  have hf : fnd (keepV a b ign) x = fnd a x := by unfold fnd; rw [hkk, keysV_good h hk]
  have e1 : elemV (keepV a b ign) x = fromV (keepV a b ign) (elD b x) := by
    rw [elemV_el (by rw [hf]; exact h1)]
    unfold elD
    obtain ⟨p1, p2⟩ := fnd_pos h1
    rw [hf, p2, Int.toNat_natCast, keysV_good h hk]
    congr 1
    exact fold_getD h hb ign a.l rfl (.inl hx)
  unfold dif
  rw [etaV_eq, etaV_eq, etaV_eq, etaV_eq, e1, elemV_el h2, from_same]; rfl

theorem rest4_yes {t : Str} {ign : List Str} {a b : Val} (h : goodB a = true) (hl : ign.length ≤ big) : rest4 t ign a b = yes := by
  have hg := good_of h
  unfold rest4 kv
  rw [etaV_eq, etaV_eq, etaV_eq, ck_t h, ck_t h, same_self (vsz (keepV a b ign) + 1) _ true (Nat.lt_succ_self _)]
  have hc : (chg notC (keepV a b ign) b (attrsV t)).length ≤ big := by
    have h1 := attrs_len t
    have h2 := List.length_filterMap_le (gC notC (keepV a b ign) b (attrsV t)) (List.range (attrsV t).length)
    have hbig : big = 140737488355328 := rfl
    unfold chg
    rw [List.length_range] at h2
    omega
  have hn : (chg notC (keepV a b ign) b (attrsV t)).all (noHit a b ign) = true := by
    rw [List.all_eq_true]
    intro x hx
    obtain ⟨i, hi, hq, hd, rfl⟩ := mem_chg.1 hx
    unfold noHit
    rw [List.all_eq_true]
    intro k hk
    rw [List.mem_range] at hk
    unfold hit
    cases he : ((attrsV t).getD i default).name == ign.getD k [] with
    | false => rfl
    | true =>
      rw [beq_iff_eq] at he
      have hbf : bothF a b ((attrsV t).getD i default).name = false := by
        cases hbf : bothF a b ((attrsV t).getD i default).name with
        | false => rfl
        | true =>
          have := keep_dif hg (ign := ign) (by rw [he]; exact getD_mem hk) hbf
          rw [this] at hd; simp at hd
      unfold bothF at hbf
      unfold fB
      rw [cond_true, hbf]; rfl
  rw [ck_t (by rw [ble_t hc, ble_t hl, hn]; rfl)]
  rfl

theorem keeps_sound (t : Str) (ign : List Str) (a b : Val) : Snd 4 [.str t, .pl (pStrs ign) .any, .agg (cV a), .agg (cV b)] (.bool true) := by
  obtain ⟨G, hG⟩ := Great_sound
  obtain ⟨C, hC, hC2⟩ := Check_sound
  have hT : TOk (tL4 G C) := tell_ok (p1_ok fun v _ => hG v) (tell_ok (p1_ok fun v _ => hC v) (tAwake_ok (tell_ok (pKp_ok fun t a b ign h => KeepP_sound (good_of h) t ign b) (tell_ok (pKp_ok fun t a b ign h => KeepD_sound (good_of h) t ign b)
    (tSame_ok (tFind_ok (tell_ok (psvv_ok fun t a b _ => Changed_sound t a b) (tell0_ok _))))))))
  refine SoundAt.rooms fun hroom => snd_fn (n := 1) hT (noTL_ok _ _) (fn := Tryd.f4) (by kernel_rfl) (loops_of (fn := Tryd.f4) (by kernel_rfl) (loops_2 ids4.1
    (atL_ok (fun _ => LS4o_ok) fun h => absurd ids4.2.1 h) (atL_ok (fun h => absurd (ids4.2.2.1.symm.trans h) (by decide)) fun _ => atL_ok (fun _ => LS4i_ok) fun h => absurd ids4.2.2.1 h))) ((e4 G C t ign a b).trans ?_)
  have hl : ign.length * 16 ≤ big := hroom (.pl (pStrs ign) .any) (by simp)
  rw [etaV_eq, etaV_eq]
  cases hCa : C a with
  | false => cases (bif decide ((t.length : Int) > 100) then true else decide ((ign.length : Int) > 20)) <;> cases G a <;> cases G b <;> rfl
  | true =>
    rw [rest4_yes (good_ckd (hC2 a hCa)) (by omega)]
    cases (bif decide ((t.length : Int) > 100) then true else decide ((ign.length : Int) > 20)) <;> cases G a <;> cases G b <;> cases C b <;> rfl

end Go.Proofs.YtgningcnnnjjnaaDoor

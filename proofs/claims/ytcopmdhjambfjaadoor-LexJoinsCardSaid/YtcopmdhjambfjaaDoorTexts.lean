/-
  A NUMBER IN A TEXT, that begins with a digit: what is printed of it is the text again; plainly.
-/
import Derived.Test.YtcopmdhjambfjaaDoorNum
import Derived.Test.YtcopmdhjambfjaaDoorModel
import Derived.Test.YtcopmdhjambfjaaDoorAll
namespace Go.Proofs.YtcopmdhjambfjaaDoor.Nu
open Go.Eng

set_option maxRecDepth 100000

def isD (c : UInt8) : Prop := 48 ≤ c.toNat ∧ c.toNat ≤ 57
def dv (c : UInt8) : Nat := c.toNat - 48
def vf : Nat → Str → Nat
  | a, [] => a
  | a, c :: r => vf (a * 10 + dv c) r

theorem vf_append : ∀ (l m : Str) (a : Nat), vf a (l ++ m) = vf (vf a l) m
  | [], _, _ => rfl
  | c :: l, m, a => vf_append l m (a * 10 + dv c)
theorem vf_ge : ∀ (l : Str) (a : Nat), a ≤ vf a l
  | [], _ => Nat.le_refl _
  | c :: l, a => Nat.le_trans (show a ≤ a * 10 + dv c by omega) (vf_ge l _)
theorem vf_pow : ∀ (l : Str) (a : Nat), a * 10 ^ l.length ≤ vf a l
  | [], a => by
    show a * 10 ^ 0 ≤ a
    rw [Nat.pow_zero, Nat.mul_one]; exact Nat.le_refl _
  | c :: l, a => by
    have h := vf_pow l (a * 10 + dv c)
    show a * 10 ^ (l.length + 1) ≤ vf (a * 10 + dv c) l
    generalize vf (a * 10 + dv c) l = V at h ⊢
    rw [Nat.pow_succ, Nat.mul_comm (10 ^ l.length) 10, ← Nat.mul_assoc]
    exact Nat.le_trans (Nat.mul_le_mul_right _ (by omega)) h

theorem bad_false {c : UInt8} : badD (Int.ofNat c.toNat) = false ↔ isD c := by
  unfold badD isD
  by_cases h : c.toNat < 48
  · rw [decide_eq_true (show Int.ofNat c.toNat < 48 by rw [Int.ofNat_eq_natCast]; omega)]
    simp only [cond_true, Bool.true_eq_false, false_iff]; omega
  · rw [decide_eq_false (show ¬ Int.ofNat c.toNat < 48 by rw [Int.ofNat_eq_natCast]; omega)]
    simp only [cond_false, decide_eq_false_iff_not, Int.ofNat_eq_natCast]; omega

theorem byt_get {d : Str} {i : Nat} (h : i < d.length) : byt d i = Int.ofNat d[i].toNat := by
  unfold byt
  rw [List.getD_eq_getElem?_getD, List.getElem?_eq_getElem h]; rfl

theorem digB_iff {d : Str} : digB d = true ↔ ∀ c ∈ d, isD c := by
  unfold digB allB
  simp only [List.all_eq_true, List.mem_range, Bool.not_eq_true']
  constructor
  · intro h c hc
    obtain ⟨i, hi, rfl⟩ := List.mem_iff_getElem.1 hc
    have := h i hi
    rw [byt_get hi] at this
    exact bad_false.1 this
  · intro h i hi
    rw [byt_get hi]
    exact bad_false.2 (h _ (List.getElem_mem _))

def numE (M V : Nat) : Lib.NumEnd Nat := if V ≤ M then .ok V else .range
theorem numE_t {M V : Nat} (h : V ≤ M) : numE M V = .ok V := if_pos h
theorem numE_f {M V : Nat} (h : ¬ V ≤ M) : numE M V = .range := if_neg h

theorem parseM_eq {M : Nat} (hM : M = 18446744073709551615) : ∀ (l : Str) (a : Nat), (∀ c ∈ l, isD c) → a ≤ M → Lib.parseUintM M a l = numE M (vf a l)
  | [], a, _, ha => (numE_t ha).symm
  | c :: r, a, hl, ha => by
    have hc : isD c := hl c (by simp)
    have hg := vf_ge r (a * 10 + dv c)
    rw [Lib.parseUintM, if_pos (show 48 ≤ c.toNat ∧ c.toNat ≤ 57 from hc)]
    show _ = numE M (vf (a * 10 + dv c) r)
    by_cases h1 : 1844674407370955162 ≤ a
    · rw [if_pos h1, numE_f (by omega)]
    · rw [if_neg h1]
      by_cases h2 : M < a * 10 + dv c
      · rw [if_pos (show M < a * 10 + (c.toNat - 48) from h2), numE_f (by omega)]
      · rw [if_neg (show ¬ M < a * 10 + (c.toNat - 48) from h2)]
        exact parseM_eq hM r (a * 10 + dv c) (fun c hc => hl c (by simp [hc])) (by omega)


theorem dec_vf : ∀ (n : Nat) (l : Str), l.length = n → (∀ c ∈ l, isD c) → (∃ c r, l = c :: r ∧ (c.toNat = 48 → r = [])) → Lib.decDigits (vf 0 l) = l := by
  intro n
  induction n with
  | zero => intro l hn _ ⟨c, r, hl, _⟩; rw [hl] at hn; simp at hn
  | succ n ih =>
    intro l hn hd ⟨c, r, hl, hz⟩
    obtain ⟨m, d, rfl⟩ : ∃ m d, l = m ++ [d] := by
      have hne : l ≠ [] := by rw [hl]; simp
      exact ⟨l.dropLast, l.getLast hne, (List.dropLast_concat_getLast hne).symm⟩
    have hdd : isD d := hd d (by simp)
    have hk : (UInt8.ofNat (48 + dv d)) = d := by
      unfold dv
      unfold isD at hdd
      rw [show 48 + (d.toNat - 48) = d.toNat by omega, UInt8.ofNat_toNat]
    have hdv : dv d < 10 := by unfold dv; unfold isD at hdd; omega
    rw [vf_append]
    show Lib.decDigits (vf 0 m * 10 + dv d) = _
    cases m with
    | nil =>
      show Lib.decDigits (0 * 10 + dv d) = [d]
      rw [Nat.zero_mul, Nat.zero_add, Lib.decDigits_one hdv, hk]
    | cons a m =>
      simp only [List.cons_append, List.cons.injEq] at hl
      obtain ⟨rfl, hl⟩ := hl
      have ha : a.toNat ≠ 48 := fun h => by have := hz h; rw [this] at hl; simp at hl
      have haD : isD a := hd a (by simp)
      have hpos : 1 ≤ vf 0 (a :: m) := by
        have h1 := vf_pow m (0 * 10 + dv a)
        have h2 : 1 ≤ dv a := by unfold dv; unfold isD at haD; omega
        have h3 : 1 ≤ 10 ^ m.length := by first | exact Nat.pow_pos (by decide) | exact Nat.pos_pow (by decide)
        show 1 ≤ vf (0 * 10 + dv a) m
        refine Nat.le_trans ?_ h1
        calc 1 = 1 * 1 := rfl
          _ ≤ (0 * 10 + dv a) * 10 ^ m.length := Nat.mul_le_mul (by omega) h3
      rw [Lib.decDigits, dif_neg (by omega), show (vf 0 (a :: m) * 10 + dv d) / 10 = vf 0 (a :: m) by omega, show (vf 0 (a :: m) * 10 + dv d) % 10 = dv d by omega, hk]
      rw [ih (a :: m) (by simp only [List.length_append, List.length_cons, List.length_nil] at hn ⊢; omega) (fun c hc => hd c (by simp only [List.mem_append]; exact .inl hc)) ⟨a, m, rfl, fun h => absurd h ha⟩]

/-- What is printed of a number that was read is what it was read from. -/
theorem itoa_parse {c : UInt8} {r : Str} (hc : isD c) (h : ((parseV (c :: r)).2 == 0) = true) : Lib.itoa (parseV (c :: r)).1 = c :: r := by
  have hb0 : byt (c :: r) 0 = Int.ofNat c.toNat := rfl
  have hneg : negW (c :: r) = false := by
    unfold negW
    rw [hb0]
    cases decide (((c :: r).length : Int) > 1) with
    | false => rfl
    | true =>
      unfold isD at hc
      rw [cond_true, beq_eq_false_iff_ne, Int.ofNat_eq_natCast]; omega
  unfold parseV at h ⊢
  cases hw : wholeV (c :: r) with
  | false => rw [hw] at h; simp at h
  | true =>
    rw [hw, cond_true] at h
    simp only [cond_true]
    cases hp : pOk (c :: r) with
    | false => rw [hp] at h; simp at h
    | true =>
      simp only [cond_true]
      unfold wholeV at hw
      rw [hneg, cond_false] at hw
      cases hz : zeroL (c :: r) with
      | true => rw [hz] at hw; simp at hw
      | false =>
        rw [hz, cond_false] at hw
        have hd := digB_iff.1 hw
        have hz' : c.toNat = 48 → r = [] := by
          intro h48
          unfold zeroL at hz
          rw [show ((c :: r : Str) == []) = false from rfl, hb0, h48, show ((Int.ofNat 48 : Int) == 48) = true from rfl] at hz
          simp only [cond_true, cond_false] at hz
          cases r with
          | nil => rfl
          | cons x y =>
            rw [decide_eq_true (show ((c :: x :: y : Str).length : Int) > 1 by simp only [List.length_cons]; omega)] at hz
            cases hz
        have hU : Lib.parseUintB 64 (c :: r) = numE 18446744073709551615 (vf 0 (c :: r)) := by
          unfold Lib.parseUintB
          rw [if_neg (by simp)]
          exact parseM_eq rfl _ _ hd (by decide)
        have hV := dec_vf _ (c :: r) rfl hd ⟨c, r, rfl, hz'⟩
        generalize vf 0 (c :: r) = V at hU hV
        have hpp : Lib.parseIntB 64 (c :: r) = if V ≤ 9223372036854775807 then .ok (V : Int) else .range := by
          rw [Lib.parseIntB_plain _ _ _ (by unfold isD at hc; omega) (by unfold isD at hc; omega), hU]
          by_cases h : V ≤ 9223372036854775807
          · rw [if_pos h, numE_t (by omega)]; simp only [Lib.signlessC]; rw [if_neg (by omega)]
          · rw [if_neg h]
            by_cases h' : V ≤ 18446744073709551615
            · rw [numE_t h']; simp only [Lib.signlessC]; rw [if_pos (by omega)]
            · rw [numE_f h']; rfl
        unfold pOk at hp
        unfold pVal
        rw [hpp] at hp ⊢
        by_cases h : V ≤ 9223372036854775807
        · rw [if_pos h]
          show Lib.itoa (V : Int) = _
          rw [Lib.itoa_nonneg, hV]
        · rw [if_neg h] at hp; cases hp

end Go.Proofs.YtcopmdhjambfjaaDoor.Nu

/-
  OF A TEXT THAT HAS TOKENS each one begins where its place says, and the places rise: plainly.
-/

namespace Go.Proofs.YtcopmdhjambfjaaDoor
open Go.Eng

set_option maxRecDepth 100000

/-- What stands where a token begins. -/
def wOf (x : TokR) : Str := bif x.kind == 1 then x.s else bif x.kind == 4 then x.s else bif x.kind == 2 then Lib.itoa x.n else bif x.kind == 3 then [34] else []

structure TokGood (s : Str) (x : TokR) : Prop where
  at0 : 0 ≤ x.p.at'
  end' : x.p.at' + (wOf x).length ≤ s.length
  stands : (s.drop x.p.at'.toNat).take (wOf x).length = wOf x

theorem good_of {s : Str} {p : Nat} {x : TokR} {w : Str} (hx : x.p = posR s p) (hw : wOf x = w) (hl : p + w.length ≤ s.length) (hs : (s.drop p).take w.length = w) : TokGood s x := by
  have ha : x.p.at' = (p : Int) := by rw [hx]; rfl
  refine ⟨by omega, by rw [ha, hw]; omega, ?_⟩
  rw [ha, hw, Int.toNat_natCast, hs]

theorem sl_take {s : Str} {p n : Nat} (h : p + n ≤ s.length) : (s.drop p).take (sl s p n).length = sl s p n := by
  have : (sl s p n).length = n := by unfold sl; rw [List.length_take, List.length_drop]; omega
  rw [this]; rfl

theorem drop_byt {s : Str} {p : Nat} (h : p < s.length) : ∃ c r, s.drop p = c :: r ∧ byt s p = (c.toNat : Int) := by
  refine ⟨s[p], s.drop (p + 1), List.drop_eq_getElem_cons h, ?_⟩
  unfold byt
  rw [List.getD_eq_getElem?_getD, List.getElem?_eq_getElem h]; rfl

theorem tokO_good {s : Str} {p : Nat} (hp : p ≤ s.length) (he : ((tokO s p).e == 0) = true) : TokGood s (tokO s p).t := by
  unfold tokO at *
  cases hb : Nat.beq p s.length with
  | true => exact good_of (w := []) rfl rfl (by simpa using hp) rfl
  | false =>
    have hlt : p < s.length := by
      rcases Nat.lt_or_ge p s.length with h | h
      · exact h
      · obtain rfl : p = s.length := by omega
        rw [Nat.beq_refl] at hb; cases hb
    rw [hb] at he
    have hr := runM_le s p
    have hsl : (sl s p (runM s p)).length = runM s p := by unfold sl; rw [List.length_take, List.length_drop]; omega
    cases hl : letB (byt s p) with
    | true => exact good_of (w := sl s p (runM s p)) rfl rfl (by omega) (sl_take (by omega))
    | false =>
    cases hd : digB (byt s p) with
    | true =>
      rw [hl, hd] at he
      have he : ((Nu.parseV (sl s p (runM s p))).2 == 0) = true := he
      have hpos := runM_pos hlt (show allB (byt s p) = true by unfold allB; rw [hd]; simp)
      obtain ⟨c, r, h1, h2⟩ := drop_byt hlt
      have hv : sl s p (runM s p) = c :: r.take (runM s p - 1) := by
        unfold sl
        rw [h1]
        obtain ⟨k, hk⟩ : ∃ k, runM s p = k + 1 := ⟨runM s p - 1, by omega⟩
        rw [hk]; rfl
      have hc : Nu.isD c := by
        unfold digB at hd
        rw [Bool.and_eq_true, decide_eq_true_eq, decide_eq_true_eq, h2] at hd
        unfold Nu.isD; omega
      rw [hv] at he
      have hi := Nu.itoa_parse hc he
      rw [← hv] at hi
      exact good_of (w := sl s p (runM s p)) rfl hi (by omega) (sl_take (by omega))
    | false =>
    cases hq : byt s p == 34 with
    | true =>
      simp only [cond_false, cond_true, hl, hd, hq, textO] at he ⊢
      cases ho : (bodyM s (p + 1) [] []).ok with
      | false => rw [ho] at he; cases he
      | true =>
        obtain ⟨c, r, h1, h2⟩ := drop_byt hlt
        refine good_of (p := p) (w := [34]) rfl rfl (by simp only [List.length_singleton]; omega) ?_
        rw [h1]
        rw [h2, beq_iff_eq] at hq
        have : c = 34 := UInt8.toNat_inj.1 (show c.toNat = 34 by omega)
        rw [this]; rfl
    | false =>
      simp only [cond_false, hl, hd, hq, signO] at he ⊢
      rcases twoS_cases s p with ⟨h0, _⟩ | ⟨a, b, h0, h1, h2⟩
      · rw [h0] at he ⊢
        cases h3 : isOne (byt s p) with
        | true =>
          have hs1 : (sl s p 1).length = 1 := by unfold sl; rw [List.length_take, List.length_drop]; omega
          exact good_of (p := p) (w := sl s p 1) rfl rfl (by omega) (sl_take (by omega))
        | false => rw [h3] at he; cases he
      · rw [h0]
        have hin := two_in h1 (by omega)
        refine good_of (p := p) (w := [a, b]) rfl rfl (by simp only [List.length_cons, List.length_nil]; omega) ?_
        obtain ⟨c, r, h3, h4⟩ := drop_byt hlt
        obtain ⟨c', r', h5, h6⟩ := drop_byt hin
        have hr : r = s.drop (p + 1) := by
          have := congrArg List.tail h3
          rw [List.tail_drop] at this
          exact this.symm
        rw [h3, hr, h5]
        unfold two at h1
        rw [Bool.and_eq_true, beq_iff_eq, beq_iff_eq, h4, h6] at h1
        have e1 : c = a := UInt8.toNat_inj.1 (by omega)
        have e2 : c' = b := UInt8.toNat_inj.1 (by omega)
        rw [e1, e2]; rfl

theorem lex_good {s : Str} {p : Nat} {l : List TokR} {e : Int} {bp : PosR} (h : LexTo s p l e bp) : e = 0 → p ≤ s.length → ∀ i, i < l.length →
    (p : Int) ≤ (l.getD i default).p.at' ∧ TokGood s (l.getD i default) ∧ (0 < i → (l.getD (i - 1) default).p.at' < (l.getD i default).p.at') := by
  induction h with
  | bad p h => intro he; rw [he] at h; simp at h
  | stop p h hk =>
    intro _ hp i hi
    have hb := blankM_in s _ p rfl hp
    obtain ⟨_, h2, _⟩ := tokO_in hb.2 h
    obtain rfl : i = 0 := by simp only [List.length_singleton] at hi; omega
    refine ⟨?_, tokO_good hb.2 h, fun h => by omega⟩
    show (p : Int) ≤ (tokO s (blankM s p)).t.p.at'
    rw [h2]
    show (p : Int) ≤ (blankM s p : Int)
    omega
  | go p l h hk hl ih =>
    intro _ hp i hi
    have hb := blankM_in s _ p rfl hp
    obtain ⟨h1, h2, h3⟩ := tokO_in hb.2 h
    have hq : blankM s p < (tokO s (blankM s p)).q := by
      rcases h3 with ⟨h3, _⟩ | ⟨_, h3⟩
      · rw [hk] at h3; cases h3
      · exact h3
    have hat : (tokO s (blankM s p)).t.p.at' = (blankM s p : Int) := by rw [h2]; rfl
    cases i with
    | zero =>
      refine ⟨?_, tokO_good hb.2 h, fun h => by omega⟩
      show (p : Int) ≤ (tokO s (blankM s p)).t.p.at'
      omega
    | succ i =>
      have hi' : i < l.length := by simpa using hi
      obtain ⟨k1, k2, k3⟩ := ih rfl h1 i hi'
      refine ⟨?_, k2, fun _ => ?_⟩
      · show (p : Int) ≤ (l.getD i default).p.at'
        omega
      · show (((tokO s (blankM s p)).t :: l).getD i default).p.at' < (l.getD i default).p.at'
        cases i with
        | zero =>
          show (tokO s (blankM s p)).t.p.at' < _
          omega
        | succ i => exact k3 (by omega)
  | goBad p e bp h hk he hl ih => intro h0; rw [h0] at he; simp at he

end Go.Proofs.YtcopmdhjambfjaaDoor

/-
  THE LAW ON TEXTS.
-/

namespace Go.Proofs.YtcopmdhjambfjaaDoor
open Go.Eng

set_option maxRecDepth 100000

def pAwk : List (D Pl) → Option (Bool × D Pl)
  | [] => some (true, .bool true)
  | _ => none
theorem pAwk_ok : ∀ ds b d, pAwk ds = some (b, d) → b = true → Snd 6 ds d := by
  intro ds b d h hb
  unfold pAwk at h
  split at h
  · simp only [Option.some.injEq, Prod.mk.injEq] at h; obtain ⟨_, rfl⟩ := h; exact awake_sound
  · simp at h
def pPr : List (D Pl) → Option (Bool × D Pl)
  | [.int .i64 n] => some (true, .str (Lib.itoa n))
  | _ => none
theorem pPr_ok : ∀ ds b d, pPr ds = some (b, d) → b = true → Snd 8 ds d := by
  intro ds b d h hb
  unfold pPr at h
  split at h
  · simp only [Option.some.injEq, Prod.mk.injEq] at h; obtain ⟨_, rfl⟩ := h; exact Nu.refPrint_sound _
  · simp at h
noncomputable def tLw : Eng.Told Pl := tell 7 pAll (tell 8 pPr (tell 6 pAwk tell0))
theorem tLw_ok : TOk tLw := tell_ok pAll_ok (tell_ok pPr_ok (tell_ok pAwk_ok (tell0_ok _)))

def sL (s : Str) (l : List TokR) (c : List (D Pl)) (i : Int) : St Pl := mkS 103 [(0, .str s), (2, .bool false), (3, .pl (pToks l) .any), (5, dI i)] [(4, .box false c)]

section
variable (s : Str) (l : List TokR) (c : List (D Pl)) (i : Nat)
def xi : TokR := l.getD i default
def xp : TokR := l.getD (w64 ((i : Int) - 1)).toNat default
def txk (w : Str) : Option (Ex × St Pl) :=
  ck_ ((decide (0 ≤ (xi l i).p.at') && decide ((xi l i).p.at' ≤ w64 ((xi l i).p.at' + (w.length : Int))) && decide (w64 ((xi l i).p.at' + (w.length : Int)) ≤ (s.length : Int))) || !(decide (w64 ((s.length : Int) - (xi l i).p.at') < (w.length : Int)) == false))
    (bif (bif decide (w64 ((s.length : Int) - (xi l i).p.at') < (w.length : Int)) then true else !(List.take ((w64 ((xi l i).p.at' + (w.length : Int))).toNat - (xi l i).p.at'.toNat) (List.drop (xi l i).p.at'.toNat s) == w)) then some (.ret, sL s l c i)
      else some (.normal, sL s l c (w64 ((i : Int) + 1))))
def txS : Option (Ex × St Pl) := ix_ i l.length (txk s l c i (xi l i).s)
def txR : Option (Ex × St Pl) := bif (xi l i).kind == 2 then ix_ i l.length (txk s l c i (Lib.itoa (xi l i).n)) else bif (xi l i).kind == 3 then txk s l c i [34] else txk s l c i []
def gA1 : Bool := bif decide ((i : Int) > 0) then decide ((xi l i).p.at' ≤ (xp l i).p.at') else false
def txG : Bool := bif (bif gA1 l i then (xi l i).kind != 0 else false) then true else decide ((xi l i).p.at' > (s.length : Int))
def txL : Option (Ex × St Pl) := lt_ i l.length (ix_ i l.length (ck_ ((decide (0 ≤ w64 ((i : Int) - 1)) && decide (w64 ((i : Int) - 1) < (l.length : Int))) || !(decide ((i : Int) > 0) == true))
  (ck_ ((decide (0 ≤ (i : Int)) && decide ((i : Int) < (l.length : Int))) || !(gA1 l i == true))
    (bif txG s l i then some (.ret, sL s l c i) else ix_ i l.length (bif (xi l i).kind == 1 then (bif (xi l i).kind == 1 then txS s l c i else txR s l c i) else (bif (xi l i).kind == 4 then txS s l c i else txR s l c i)))))) (some (.exit 0, sL s l c i))

theorem b4 : evC tLw noTL noL 4 (loopAt 4 0) [0, 2, 3, 5] (sL s l c i) = txL s l c i := by kernel_rfl
end
theorem ids4 : (loopsAt 4).length = 1 ∧ firstId (loopAt 4 0) = 5 ∧ loopsOf (loopAt 4 0) = [] := ⟨by kernel_rfl, by kernel_rfl, by kernel_rfl⟩

def Good (s : Str) (l : List TokR) : Prop := ∀ i, i < l.length → TokGood s (l.getD i default) ∧ (0 < i → (l.getD (i - 1) default).p.at' < (l.getD i default).p.at')
noncomputable def goodB (s : Str) (l : List TokR) : Bool := @decide (Good s l) (Classical.propDecidable _)
theorem goodB_iff {s : Str} {l : List TokR} : goodB s l = true ↔ Good s l := by
  unfold goodB
  exact @decide_eq_true_iff _ (Classical.propDecidable _)

theorem txk_eq {s : Str} {l : List TokR} {c : List (D Pl)} {i : Nat} {w : Str} (hs : s.length ≤ big) (hi : i ≤ big) (hw : wOf (xi l i) = w) (hg : TokGood s (xi l i)) : txk s l c i w = some (.normal, sL s l c ((i + 1 : Nat) : Int)) := by
  have hbig : big = 140737488355328 := rfl
  obtain ⟨h0, h1, h2⟩ := hg
  rw [hw] at h1 h2
  unfold txk
  generalize (xi l i).p.at' = a at *
  rw [show w64 (a + (w.length : Int)) = a + (w.length : Int) from wrap_in _ (by omega), show w64 ((s.length : Int) - a) = (s.length : Int) - a from wrap_in _ (by omega)]
  rw [decide_eq_true h0, decide_eq_true (show a ≤ a + (w.length : Int) by omega), decide_eq_true (show a + (w.length : Int) ≤ (s.length : Int) by omega), decide_eq_false (show ¬ (s.length : Int) - a < (w.length : Int) by omega), ck_t (show (true && true && true || !(false == false)) = true from rfl),
    show (a + (w.length : Int)).toNat - a.toNat = w.length by omega, h2, beq_self_eq_true, show w64 ((i : Int) + 1) = ((i + 1 : Nat) : Int) from wrap_nat hi]
  rfl

theorem txL_eq {s : Str} {l : List TokR} {c : List (D Pl)} {i : Nat} (hs : s.length ≤ big) (hl : l.length ≤ big) (hi : i < l.length) (hg : Good s l) : txL s l c i = some (.normal, sL s l c ((i + 1 : Nat) : Int)) := by
  have hbig : big = 140737488355328 := rfl
  obtain ⟨h1, h2⟩ := hg i hi
  have hA : gA1 l i = false := by
    unfold gA1
    by_cases h : 0 < i
    · have hw : (w64 ((i : Int) - 1)).toNat = i - 1 := by
        rw [show w64 ((i : Int) - 1) = (i : Int) - 1 from wrap_in _ (by omega)]; omega
      rw [decide_eq_true (show (i : Int) > 0 by omega), cond_true]
      unfold xi xp
      rw [hw]
      have := h2 h
      exact decide_eq_false (by omega)
    · rw [decide_eq_false (show ¬ (i : Int) > 0 by omega)]; rfl
  have hG : txG s l i = false := by
    unfold txG
    rw [hA]
    have a0 := h1.at0
    have a1 := h1.end'
    exact decide_eq_false (by show ¬ (l.getD i default).p.at' > (s.length : Int); omega)
  unfold txL
  rw [lt_t hi, ix_t hi, ck_t (by
    by_cases h : 0 < i
    · rw [show w64 ((i : Int) - 1) = (i : Int) - 1 from wrap_in _ (by omega), decide_eq_true (show (0 : Int) ≤ (i : Int) - 1 by omega), decide_eq_true (show (i : Int) - 1 < (l.length : Int) by omega)]; rfl
    · rw [decide_eq_false (show ¬ (i : Int) > 0 by omega)]; simp), hA, ck_t (by simp), hG, cond_false, ix_t hi]
  have hS : (xi l i).kind == 1 ∨ (xi l i).kind == 4 → txS s l c i = some (.normal, sL s l c ((i + 1 : Nat) : Int)) := by
    intro h
    unfold txS
    rw [ix_t hi]
    refine txk_eq hs (by omega) ?_ h1
    unfold wOf
    rcases h with h | h
    · rw [h]; rfl
    · rw [h]; cases (xi l i).kind == 1 <;> rfl
  cases k1 : (xi l i).kind == 1 with
  | true => simp only [cond_true]; exact hS (.inl k1)
  | false =>
  simp only [cond_false]
  cases k4 : (xi l i).kind == 4 with
  | true => simp only [cond_true]; exact hS (.inr k4)
  | false =>
  simp only [cond_false]
  unfold txR
  cases k2 : (xi l i).kind == 2 with
  | true =>
    rw [cond_true, ix_t hi]
    exact txk_eq hs (by omega) (by unfold wOf; rw [k1, k4, k2]; rfl) h1
  | false =>
  cases k3 : (xi l i).kind == 3 with
  | true => exact txk_eq hs (by omega) (by unfold wOf; rw [k1, k4, k2, k3]; rfl) h1
  | false => exact txk_eq hs (by omega) (by unfold wOf; rw [k1, k4, k2, k3]; rfl) h1

theorem loopL (s : Str) (l : List TokR) (c : List (D Pl)) (hs : s.length ≤ big) (hl : l.length ≤ big) (hg : Good s l) :
    Goes X0 (.loop (loopAt 4 0)) (sL s l c 0) (pickR (.leaf (.exit 0) (sL s l c l.length))).1 (pickR (.leaf (.exit 0) (sL s l c l.length))).2 := by
  refine loop_all (Sf := fun i => sL s l c i) (n := l.length) (by simp) (fun i hi => ?_) ?_
  · exact goes_of tLw_ok (noTL_ok _ _) (noLoops ids4.2.2) ((b4 s l c i).trans (txL_eq hs hl hi hg))
  · exact goes_of tLw_ok (noTL_ok _ _) (noLoops ids4.2.2) ((b4 s l c l.length).trans (by unfold txL; rw [lt_f (by omega)]))

noncomputable def LS5 (S : St Pl) : Option (Bool × LR Pl) := match seenS 103 [0, 2, 3, 5] S with
  | some ([.str s, .bool false, .pl ⟨.toks, l⟩ .any, .int .i64 (.ofNat 0)], [(4, .box false c)]) => some (Nat.ble s.length big && (Nat.ble l.length big && goodB s l), .leaf (.exit 0) (sL s l c l.length))
  | _ => none

theorem LS5_ok : SOk X0 (loopAt 4 0) LS5 := by
  intro S b r h hb
  unfold LS5 at h
  split at h
  · rename_i s l c hs
    simp only [Option.some.injEq, Prod.mk.injEq] at h
    obtain ⟨rfl, rfl⟩ := h
    simp only [Bool.and_eq_true, Nat.ble_eq] at hb
    obtain ⟨h1, h2, h3⟩ := hb
    refine Goes.pre (keepOf [0, 2, 3, 5]) ?_
    rw [seenS_mask hs]
    exact loopL s l c h1 h2 (goodB_iff.1 h3)
  · simp at h

theorem eTexts (s : Str) : evF tLw noTL (atL 5 LS5 noL) 4 Tryd.f4 [.str s] =
    bif (bif decide ((s.length : Int) > 5000) then true else (allM s).bad != 0) then some (.bool true) else ck_ (Nat.ble s.length big && (Nat.ble (allM s).l.length big && goodB s (allM s).l)) (some (.bool true)) := by kernel_rfl

theorem lexTo_len {s : Str} {p : Nat} {l : List TokR} {e : Int} {bp : PosR} (h : LexTo s p l e bp) : p ≤ s.length → l.length ≤ s.length - p + 1 := by
  induction h with
  | bad => intro _; simp
  | stop => intro _; simp
  | go p l h hk hl ih =>
    intro hp
    have hb := blankM_in s _ p rfl hp
    obtain ⟨h1, _, h3⟩ := tokO_in hb.2 h
    have := ih h1
    rcases h3 with ⟨h3, _⟩ | ⟨_, h3⟩
    · rw [hk] at h3; cases h3
    · simp only [List.length_cons]; omega
  | goBad => intro _; simp

theorem allM_to (s : Str) (h : s.length ≤ 32768) : ∃ l e bp, LexTo s 0 l e bp ∧ allM s = ⟨l, e, bp⟩ := by
  obtain ⟨l, e, bp, h1, h2⟩ := allK_to s (s.length + 1) 0 [] (Nat.zero_le _) (by omega)
  refine ⟨l, e, bp, h1, ?_⟩
  unfold allM
  rw [blt_f (by omega), cond_false, h2]
  cases he : e == 0 with
  | true => rfl
  | false => rw [lexTo_bad h1 he]; rfl

theorem texts_sound' (s : Str) : Snd 4 [.str s] (.bool true) := by
  have hbig : big = 140737488355328 := rfl
  have hL := loops_of (f := 4) (fn := Tryd.f4) (by kernel_rfl) (loops_1 ids4.1 (L := atL 5 LS5 noL) (atL_ok (fun _ => LS5_ok) fun h => absurd ids4.2.1 h))
  refine snd_fn (n := 4) tLw_ok (noTL_ok _ _) (fn := Tryd.f4) (by kernel_rfl) hL ((eTexts s).trans ?_)
  by_cases h : (s.length : Int) > 5000
  · rw [decide_eq_true h]; rfl
  · rw [decide_eq_false h, cond_false]
    obtain ⟨l, e, bp, h1, h2⟩ := allM_to s (by omega)
    rw [h2]
    simp only
    cases he : e == 0 with
    | false => rw [show (e != 0) = true by rw [bne, he]; rfl]; rfl
    | true =>
      rw [show (e != 0) = false by rw [bne, he]; rfl, cond_false]
      have hlen := lexTo_len h1 (Nat.zero_le _)
      have hg := lex_good h1 (by simpa using he) (Nat.zero_le _)
      rw [ck_t (by rw [ble_t (show s.length ≤ big by omega), ble_t (show l.length ≤ big by omega), goodB_iff.2 fun i hi => ⟨(hg i hi).2.1, (hg i hi).2.2⟩]; rfl)]

end Go.Proofs.YtcopmdhjambfjaaDoor

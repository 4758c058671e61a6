/-
  THE TYPED LISTS that this project's slices read as, and their laws.
-/
import Derived.Test.YtlfohmdclcdejaaDoorEngV
namespace Go.Eng

abbrev Str := List UInt8

structure Val where
  kind : Int
  i : Int
  s : Str
  l : List Val
  keys : List Str
  tk : Int
  tof : Int
  sec : Bool
  deriving Inhabited

structure AttrR where
  name : Str
  tk : Int
  tof : Int
  need : Bool
  comp : Bool
  anew : Bool
  own : Bool
  deriving Inhabited

structure KeyR where
  ty : Str
  name : Str
  kind : Int
  i : Int
  k : Str
  n : Int
  deriving Inhabited

structure ActR where
  kind : Int
  k : KeyR
  prior : Val
  want : Val
  ahead : List Int
  deriving Inhabited

structure RowR where
  t : Str
  name : Str
  tk : Int
  tof : Int
  is : Str
  deriving Inhabited

inductive Ty where
  | bytes | strs | vals | attrs | ints | acts | rows

@[reducible] def Ty.C : Ty → Type
  | .bytes => UInt8
  | .strs => Str
  | .vals => Val
  | .attrs => AttrR
  | .ints => Int
  | .acts => ActR
  | .rows => RowR

def Ty.dflt : (t : Ty) → t.C
  | .bytes => (0 : UInt8)
  | .strs => ([] : Str)
  | .vals => (default : Val)
  | .attrs => (default : AttrR)
  | .ints => (0 : Int)
  | .acts => (default : ActR)
  | .rows => (default : RowR)

structure Pl where
  t : Ty
  l : List t.C

abbrev pBytes (l : List UInt8) : Pl := ⟨.bytes, l⟩
abbrev pStrs (l : List Str) : Pl := ⟨.strs, l⟩
abbrev pVals (l : List Val) : Pl := ⟨.vals, l⟩
abbrev pAttrs (l : List AttrR) : Pl := ⟨.attrs, l⟩
abbrev pInts (l : List Int) : Pl := ⟨.ints, l⟩
abbrev pActs (l : List ActR) : Pl := ⟨.acts, l⟩
abbrev pRows (l : List RowR) : Pl := ⟨.rows, l⟩

def dI (n : Int) : D Pl := .int .i64 n

def cV (v : Val) : List (D Pl) := [dI v.kind, dI v.i, .str v.s, .pl (pVals v.l) .any, .pl (pStrs v.keys) .any, dI v.tk, dI v.tof, .bool v.sec]
def cA (a : AttrR) : List (D Pl) := [.str a.name, dI a.tk, dI a.tof, .bool a.need, .bool a.comp, .bool a.anew, .bool a.own]
def cK (k : KeyR) : List (D Pl) := [.str k.ty, .str k.name, dI k.kind, dI k.i, .str k.k, .int .u32 k.n]
def cR (a : RowR) : List (D Pl) := [.str a.t, .str a.name, dI a.tk, dI a.tof, .str a.is]
def cAct (a : ActR) : List (D Pl) := [dI a.kind, .str a.k.ty, .str a.k.name, dI a.k.kind, dI a.k.i, .str a.k.k, .int .u32 a.k.n,
  dI a.prior.kind, dI a.prior.i, .str a.prior.s, .pl (pVals a.prior.l) .any, .pl (pStrs a.prior.keys) .any, dI a.prior.tk, dI a.prior.tof, .bool a.prior.sec,
  dI a.want.kind, dI a.want.i, .str a.want.s, .pl (pVals a.want.l) .any, .pl (pStrs a.want.keys) .any, dI a.want.tk, dI a.want.tof, .bool a.want.sec, .pl (pInts a.ahead) .any]

def Ty.enc : (t : Ty) → t.C → List (D Pl)
  | .bytes, (b : UInt8) => [.int .u8 b.toNat]
  | .strs, (s : Str) => [.str s]
  | .vals, (v : Val) => cV v
  | .attrs, (a : AttrR) => cA a
  | .ints, (n : Int) => [dI n]
  | .acts, (a : ActR) => cAct a
  | .rows, (a : RowR) => cR a

def Ty.ez : Ty → Nat
  | .bytes => 1 | .strs => 1 | .vals => 8 | .attrs => 7 | .ints => 1 | .acts => 24 | .rows => 5

def Ty.by' : Ty → Nat
  | .bytes => 1 | .strs => 16 | .vals => 104 | .attrs => 40 | .ints => 8 | .acts => 312 | .rows => 64

def asL (t : Ty) : D Pl → Option (List t.C)
  | .nilS => some []
  | .pl ⟨s, l⟩ _ => match t, s, l with
    | .vals, .vals, l => some l
    | .strs, .strs, l => some l
    | .ints, .ints, l => some l
    | _, _, _ => none
  | _ => none

def dV : List (D Pl) → Option Val
  | [.int .i64 k, .int .i64 i, .str s, l, ks, .int .i64 tk, .int .i64 tof, .bool sec] => match asL .vals l, asL .strs ks with
    | some l, some ks => some ⟨k, i, s, l, ks, tk, tof, sec⟩
    | _, _ => none
  | _ => none
def dA : List (D Pl) → Option AttrR
  | [.str n, .int .i64 tk, .int .i64 tof, .bool a, .bool b, .bool c, .bool d] => some ⟨n, tk, tof, a, b, c, d⟩
  | _ => none
def dR : List (D Pl) → Option RowR
  | [.str t, .str n, .int .i64 tk, .int .i64 tof, .str s] => some ⟨t, n, tk, tof, s⟩
  | _ => none
def dAct : List (D Pl) → Option ActR
  | [.int .i64 kind, .str ty, .str name, .int .i64 kk, .int .i64 ki, .str k, .int .u32 n,
     .int .i64 pk, .int .i64 pi, .str ps, pl, pks, .int .i64 ptk, .int .i64 ptof, .bool psec,
     .int .i64 wk, .int .i64 wi, .str ws, wl, wks, .int .i64 wtk, .int .i64 wtof, .bool wsec, ah] => match asL .vals pl, asL .strs pks, asL .vals wl, asL .strs wks, asL .ints ah with
    | some pl, some pks, some wl, some wks, some ah => some ⟨kind, ⟨ty, name, kk, ki, k, n⟩, ⟨pk, pi, ps, pl, pks, ptk, ptof, psec⟩, ⟨wk, wi, ws, wl, wks, wtk, wtof, wsec⟩, ah⟩
    | _, _, _, _, _ => none
  | _ => none

def dB : List (D Pl) → Option UInt8
  | [.int .u8 n] => bif inR .u8 n then some (UInt8.ofNat n.toNat) else none
  | _ => none
def dS : List (D Pl) → Option Str
  | [.str s] => some s
  | _ => none
def dN : List (D Pl) → Option Int
  | [.int .i64 n] => some n
  | _ => none

def Ty.dec : (t : Ty) → List (D Pl) → Option t.C
  | .bytes, cs => dB cs
  | .strs, cs => dS cs
  | .vals, cs => dV cs
  | .attrs, cs => dA cs
  | .ints, cs => dN cs
  | .acts, cs => dAct cs
  | .rows, cs => dR cs

def castL : (a b : Ty) → List b.C → Option (List a.C)
  | .bytes, .bytes, l => some l
  | .strs, .strs, l => some l
  | .vals, .vals, l => some l
  | .attrs, .attrs, l => some l
  | .ints, .ints, l => some l
  | .acts, .acts, l => some l
  | .rows, .rows, l => some l
  | _, _, _ => none

/-- 'emp': from a slice type's number -/
def plC (emp : TypeId → Option Ty) : Pay Pl where
  esz := fun p => p.t.ez
  bys := fun p => p.t.by'
  len := fun p => p.l.length
  elem := fun p i => p.t.enc (p.l.getD i p.t.dflt)
  emp := fun t => match emp t with
    | some t => some ⟨t, []⟩
    | none => none
  snoc := fun p cs => match p.t.dec cs with
    | some x => some ⟨p.t, p.l ++ [x]⟩
    | none => none
  cat := fun p q => match castL p.t q.t q.l with
    | some l => some ⟨p.t, p.l ++ l⟩
    | none => none
  cut := fun p i n => ⟨p.t, (p.l.drop i).take n⟩
  set := fun p i cs => match p.t.dec cs with
    | some x => some ⟨p.t, p.l.set i x⟩
    | none => none
  rep := fun _ _ => none
  bytes := fun p => match p with
    | ⟨.bytes, l⟩ => some l
    | _ => none
  ofBytes := fun _ l => some (pBytes l)

theorem asL_le {C : Pay Pl} (hC : ∀ t, C.len ⟨t, []⟩ = 0) {t : Ty} {d : D Pl} {l : List t.C} (h : asL t d = some l) : Dle C d (.pl ⟨t, l⟩ .any) := by
  unfold asL at h
  split at h
  · simp only [Option.some.injEq] at h
    subst h
    exact .nil _ (hC t)
  · split at h
    · simp only [Option.some.injEq] at h; subst h; exact .any _ _
    · simp only [Option.some.injEq] at h; subst h; exact .any _ _
    · simp only [Option.some.injEq] at h; subst h; exact .any _ _
    · simp at h
  · simp at h

inductive All2 (C : Pay Pl) : List (D Pl) → List (D Pl) → Prop
  | nil : All2 C [] []
  | cons {d d' : D Pl} {r r' : List (D Pl)} (h : Dle C d d') (hr : All2 C r r') : All2 C (d :: r) (d' :: r')

theorem All2.spec {C : Pay Pl} {cs es : List (D Pl)} (h : All2 C cs es) : cs.length = es.length ∧ ∀ (j : Nat) d d', cs[j]? = some d → es[j]? = some d' → Dle C d d' := by
  induction h with
  | nil => exact ⟨rfl, fun j d d' h => by simp at h⟩
  | cons h _ ih =>
    refine ⟨by simp [ih.1], fun j d d' hd hd' => ?_⟩
    cases j with
    | zero => simp only [List.getElem?_cons_zero, Option.some.injEq] at hd hd'; subst hd hd'; exact h
    | succ j => exact ih.2 j d d' (by simpa using hd) (by simpa using hd')

theorem Ty.enc_len (t : Ty) (x : t.C) : (t.enc x).length = t.ez := by cases t <;> rfl

theorem Ty.enc_clo (t : Ty) (x : t.C) : ∀ d ∈ t.enc x, closed d = true := by
  have h : closedL (t.enc x) = true := by cases t <;> rfl
  have : ∀ l : List (D Pl), closedL l = true → ∀ d ∈ l, closed d = true := by
    intro l
    induction l with
    | nil => intro _ d hd; simp at hd
    | cons e r ih =>
      intro h d hd
      simp only [closedL, Bool.and_eq_true] at h
      rcases List.mem_cons.1 hd with rfl | hd
      · exact h.1
      · exact ih h.2 d hd
  exact this _ h

theorem All2.of1 {C : Pay Pl} {d d' : D Pl} {r r' : List (D Pl)} (h : d = d') (hr : All2 C r r') : All2 C (d :: r) (d' :: r') := by subst h; exact .cons (.same _) hr

theorem Ty.dec_enc {C : Pay Pl} (hC : ∀ t, C.len ⟨t, []⟩ = 0) (t : Ty) (cs : List (D Pl)) (x : t.C) (h : t.dec cs = some x) : All2 C cs (t.enc x) := by
  cases t with
  | bytes =>
    simp only [Ty.dec, dB] at h
    split at h
    · rename_i n
      cases hr : inR .u8 n with
      | false => simp [hr] at h
      | true =>
        simp only [hr, cond_true, Option.some.injEq] at h
        subst h
        refine .of1 ?_ .nil
        have := inR_of hr
        simp only [lo, hi] at this
        obtain ⟨m, rfl⟩ := Int.eq_ofNat_of_zero_le this.1
        have hm : m < 256 := by omega
        simp [UInt8.toNat_ofNat', Nat.mod_eq_of_lt hm]
    · simp at h
  | strs =>
    simp only [Ty.dec, dS] at h
    split at h
    · simp only [Option.some.injEq] at h; subst h; exact .of1 rfl .nil
    · simp at h
  | ints =>
    simp only [Ty.dec, dN] at h
    split at h
    · simp only [Option.some.injEq] at h; subst h; exact .of1 rfl .nil
    · simp at h
  | vals =>
    simp only [Ty.dec, dV] at h
    split at h
    · split at h
      · rename_i h1 h2
        simp only [Option.some.injEq] at h
        subst h
        exact .of1 rfl (.of1 rfl (.of1 rfl (.cons (asL_le hC h1) (.cons (asL_le hC h2) (.of1 rfl (.of1 rfl (.of1 rfl .nil)))))))
      · simp at h
    · simp at h
  | attrs =>
    simp only [Ty.dec, dA] at h
    split at h
    · simp only [Option.some.injEq] at h
      subst h
      exact .of1 rfl (.of1 rfl (.of1 rfl (.of1 rfl (.of1 rfl (.of1 rfl (.of1 rfl .nil))))))
    · simp at h
  | rows =>
    simp only [Ty.dec, dR] at h
    split at h
    · simp only [Option.some.injEq] at h
      subst h
      exact .of1 rfl (.of1 rfl (.of1 rfl (.of1 rfl (.of1 rfl .nil))))
    · simp at h
  | acts =>
    simp only [Ty.dec, dAct] at h
    split at h
    · split at h
      · rename_i h1 h2 h3 h4 h5
        simp only [Option.some.injEq] at h
        subst h
        exact .of1 rfl (.of1 rfl (.of1 rfl (.of1 rfl (.of1 rfl (.of1 rfl (.of1 rfl
          (.of1 rfl (.of1 rfl (.of1 rfl (.cons (asL_le hC h1) (.cons (asL_le hC h2) (.of1 rfl (.of1 rfl (.of1 rfl
          (.of1 rfl (.of1 rfl (.of1 rfl (.cons (asL_le hC h3) (.cons (asL_le hC h4) (.of1 rfl (.of1 rfl (.of1 rfl (.cons (asL_le hC h5) .nil)))))))))))))))))))))))
      · simp at h
    · simp at h

theorem castL_eq {a b : Ty} {l : List b.C} {l' : List a.C} (h : castL a b l = some l') : ∃ e : b = a, l' = e ▸ l := by
  unfold castL at h
  split at h <;> first | (simp only [Option.some.injEq] at h; subst h; exact ⟨rfl, rfl⟩) | simp at h

theorem plC_ok (emp : TypeId → Option Ty) : PayOk (plC emp) where
  pos := fun p => by show 0 < p.t.ez; cases p.t <;> decide
  bpos := fun p => by show 0 < p.t.by'; cases p.t <;> decide
  elen := fun p i _ => Ty.enc_len _ _
  clo := fun p i d h => Ty.enc_clo _ _ d h
  emp := fun t p h => by
    simp only [plC] at h
    split at h
    · simp only [Option.some.injEq] at h; subst h; rfl
    · simp at h
  snoc := fun p cs q h => by
    simp only [plC] at h
    split at h
    · rename_i x hx
      simp only [Option.some.injEq] at h
      subst h
      obtain ⟨h1, h2⟩ := (Ty.dec_enc (C := plC emp) (fun _ => rfl) _ _ _ hx).spec
      refine ⟨by simp [plC], rfl, rfl, fun i hi => ?_, h1.trans (Ty.enc_len _ _), fun j d d' hd hd' => h2 j d d' hd ?_⟩
      · simp only [plC] at hi ⊢
        simp [List.getD_eq_getElem?_getD, List.getElem?_append, hi]
      · simpa [plC, List.getD_eq_getElem?_getD] using hd'
    · simp at h
  cat := fun p q r h => by
    simp only [plC] at h
    split at h
    · rename_i l hl
      obtain ⟨e, rfl⟩ := castL_eq hl
      simp only [Option.some.injEq] at h
      subst h
      obtain ⟨t, l'⟩ := q
      simp only at e
      subst e
      refine ⟨by simp [plC], rfl, rfl, rfl, fun i hi => ?_, fun i hi => ?_⟩
      · simp only [plC] at hi ⊢
        simp [List.getD_eq_getElem?_getD, List.getElem?_append, hi]
      · simp only [plC] at hi ⊢
        have hn : ¬ (p.l.length + i < p.l.length) := by omega
        simp [List.getD_eq_getElem?_getD, List.getElem?_append, hn]
    · simp at h
  cut := fun p a n h => by
    simp only [plC] at h ⊢
    refine ⟨by simp; omega, trivial, trivial, fun i hi => ?_⟩
    simp [List.getD_eq_getElem?_getD, hi, List.getElem?_drop]
  set := fun p i cs q hi h => by
    simp only [plC] at h hi
    split at h
    · rename_i x hx
      simp only [Option.some.injEq] at h
      subst h
      obtain ⟨h1, h2⟩ := (Ty.dec_enc (C := plC emp) (fun _ => rfl) _ _ _ hx).spec
      refine ⟨by simp [plC], rfl, rfl, fun j hj => ?_, h1.trans (Ty.enc_len _ _), fun j d d' hd hd' => h2 j d d' hd ?_⟩
      · simp only [plC]
        simp [List.getD_eq_getElem?_getD, Ne.symm hj]
      · simpa [plC, List.getD_eq_getElem?_getD, List.getElem?_set, hi] using hd'
    · simp at h
  bytes := fun p l h => by
    simp only [plC] at h
    split at h
    · simp only [Option.some.injEq] at h
      subst h
      refine ⟨rfl, rfl, fun i hi => ?_⟩
      simp only [plC]
      simp [List.getD_eq_getElem?_getD, hi, Ty.enc]
    · simp at h
  ofBytes := fun t l p h => by
    simp only [plC, Option.some.injEq] at h
    subst h
    exact ⟨rfl, rfl⟩

end Go.Eng

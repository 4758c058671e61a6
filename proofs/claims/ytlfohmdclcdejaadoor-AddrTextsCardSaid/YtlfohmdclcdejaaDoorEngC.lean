/-
  THE ENGINE, PART C: THE FRAME AND ITS OBJECTS, AS DATA; what an operation that turns nothing may do to the world.
-/
import Derived.Test.YtlfohmdclcdejaaDoorEngB
namespace Go.Eng
open Go.RowKit

variable {α : Type}

/-- What goes with a frame: the world at its beginning, what others may still write, where its objects lie. -/
structure Gh where
  w0 : World
  av0 : Nat → Prop
  rho : Nat → Option Nat

def Ob.fz : Ob α → Bool
  | .box f _ => f
  | .arr f _ => f

def cxOf (g : Gh) (hs : Obs α) (w : World) : Cx α where
  w := w
  av := fun b => g.av0 b ∨ ∃ o ob, look hs o = some ob ∧ ob.fz = false ∧ g.rho o = some b
  bx := fun o => match look hs o with | some (.box _ _) => g.rho o | _ => none
  ar := fun o => match look hs o with | some (.arr _ p) => some (g.rho o, p) | _ => none

def cx0 (w : World) (av : Nat → Prop) : Cx α where
  w := w
  av := av
  bx := fun _ => none
  ar := fun _ => none

def ObRel (C : Pay α) (cx : Cx α) (b : Option Nat) : Ob α → Prop
  | .box _ cs => ∃ b' cells T, b = some b' ∧ cx.w.heap[b']? = some (.cells cells T (0, 0)) ∧ cells.size = cs.length ∧
      (∀ (i : Nat) v, cells[i]? = some v → v.oneCell' = true) ∧ ∀ (i : Nat) v c, cells[i]? = some v → cs[i]? = some c → RD C cx v c
  | .arr _ p => match b with
    | none => C.len p = 0
    | some b' => ∃ cells T, cx.w.heap[b']? = some (.cells cells T (0, 0)) ∧ C.len p * C.esz p ≤ cells.size ∧ C.len p * C.bys p ≤ big ∧
      (∀ (i : Nat) v, cells[i]? = some v → v.oneCell' = true) ∧
      ∀ (i j : Nat) v d, i < C.len p → cells[i * C.esz p + j]? = some v → (C.elem p i)[j]? = some d → RD C cx v d

def holds (tmps : Array Value) (ks : List (Nat × Bool)) : Prop := ∀ k ∈ ks, tmps[k.1]? = some (.bool k.2)

def RG (C : Pay α) (cx : Cx α) (tmps : Array Value) (v : Value) : D α → Prop
  | .gd ks t d => (holds tmps ks → t = true ∧ RD C cx v d) ∧ (¬ holds tmps ks → t = false ∧ v = undef)
  | d => RD C cx v d

/-- A block has just so many cells. -/
def GSz (w : World) (i n : Nat) : Prop := ∃ cells T fz, w.heap[i]? = some (.cells cells T fz) ∧ cells.size = n

structure Sim (X : Ctx α) (g : Gh) (tm : List (D α)) (hs : Obs α) (a : Act) (w : World) : Prop where
  size : a.tmps.size = tm.length
  tm : ∀ t, RG X.C (cxOf g hs w) a.tmps (a.tmps.getD t undef) (getT tm t)
  dfr : a.defers = []
  obs : ∀ o ob, look hs o = some ob → ObRel X.C (cxOf g hs w) (g.rho o) ob
  inj : ∀ o o' ob ob' b, look hs o = some ob → look hs o' = some ob' → g.rho o = some b → g.rho o' = some b → o = o'
  own : ∀ o ob b, look hs o = some ob → g.rho o = some b → g.w0.heap.size ≤ b ∧ b < w.heap.size
  below : Below g.w0.heap.size g.w0 w
  av0 : ∀ b, g.av0 b → b < g.w0.heap.size
  glob : ∀ i cs, X.glob i = some cs → RD X.C (cx0 g.w0 g.av0) (.pointer (some ⟨i, 0, none⟩)) (.ref cs) ∧ GSz g.w0 i cs.length

theorem RG.kill {C : Pay α} (hC : PayOk C) {ns : Nat → Bool} {cx cx' : Cx α} (hle : CxLe C ns cx cx') {tmps : Array Value} {v : Value} {d : D α} (h : RG C cx tmps v d) :
    RG C cx' tmps v (kill ns d) := by
  cases d
  case gd ks t d => exact ⟨fun hk => ⟨(h.1 hk).1, RD.kill hC hle (h.1 hk).2⟩, h.2⟩
  case arr o => have := RD.kill hC hle (show RD C cx v _ from h); simp only [Eng.kill] at this ⊢; revert this; cases ns o <;> exact id
  case ptr o f => have := RD.kill hC hle (show RD C cx v _ from h); simp only [Eng.kill] at this ⊢; revert this; cases ns o <;> exact id
  case epr o i f => have := RD.kill hC hle (show RD C cx v _ from h); simp only [Eng.kill] at this ⊢; revert this; cases ns o <;> exact id
  all_goals exact RD.kill hC hle h

theorem RD.grow {C : Pay α} (hC : PayOk C) {cx cx' : Cx α} (hle : CxLe C (fun _ => false) cx cx') {v : Value} {d : D α} (h : RD C cx v d) : RD C cx' v d := by
  have := RD.kill hC hle h
  rwa [kill_none] at this

theorem RD.closedTo {C : Pay α} (hC : PayOk C) {cx cx' : Cx α} (hle : CxLe C (fun _ => true) cx cx') {v : Value} {d : D α} (hd : closed d = true) (h : RD C cx v d) : RD C cx' v d := by
  have := RD.kill hC hle h
  rwa [kill_closed _ d hd] at this

theorem getT_set (tm : List (D α)) (i t : Nat) (x : D α) : getT (setT tm i x) t = if i = t ∧ t < tm.length then x else getT tm t := by
  induction tm generalizing i t with
  | nil => simp [setT, getT]
  | cons d r ih =>
    cases i with
    | zero => cases t <;> simp [setT, getT]
    | succ i =>
      cases t with
      | zero => simp [setT, getT]
      | succ t => simp [setT, getT, ih]

theorem setT_length (tm : List (D α)) (i : Nat) (x : D α) : (setT tm i x).length = tm.length := by
  induction tm generalizing i with
  | nil => simp [setT]
  | cons d r ih => cases i <;> simp [setT, ih]

theorem getT_map (f : D α → D α) (hf : f .bad = .bad) (tm : List (D α)) (t : Nat) : getT (tm.map f) t = f (getT tm t) := by
  induction tm generalizing t with
  | nil => simp [getT, hf]
  | cons d r ih => cases t <;> simp [getT, ih]

theorem getT_out (tm : List (D α)) (t : Nat) (h : tm.length ≤ t) : getT tm t = .bad := by
  induction tm generalizing t with
  | nil => rfl
  | cons d r ih =>
    cases t with
    | zero => simp at h
    | succ t => simp [getT]; exact ih t (by simpa using h)

/-- The frame as it is, in a world in which nothing that was there has turned. -/
theorem cxLe_grow (C : Pay α) {g : Gh} {hs : Obs α} {w w' : World} (h : Below w.heap.size w w') (_hown : ∀ o ob b, look hs o = some ob → g.rho o = some b → b < w.heap.size) :
    CxLe C (fun _ => false) (cxOf g hs w) (cxOf g hs w') where
  cell := fun b ob _ hb => by
    have hlt : b < w.heap.size := by
      rcases Nat.lt_or_ge b w.heap.size with h | h
      · exact h
      · simp [cxOf, Array.getElem?_eq_none h] at hb
    simp only [cxOf] at hb ⊢
    rw [h.block b hlt]; exact hb
  av := fun b ob _ hav => hav
  bx := fun o b _ h => h
  ar := fun o b p _ h => ⟨p, h, rfl, rfl⟩
  size := fun b cells T fz hb => by
    have hlt : b < w.heap.size := by
      rcases Nat.lt_or_ge b w.heap.size with h | h
      · exact h
      · simp [cxOf, Array.getElem?_eq_none h] at hb
    simp only [cxOf] at hb ⊢
    rw [h.block b hlt]; exact ⟨cells, T, fz, hb, rfl⟩

theorem lt_of_heap {w : World} {b : Nat} {ob : Obj} (h : w.heap[b]? = some ob) : b < w.heap.size := by
  rcases Nat.lt_or_ge b w.heap.size with h' | h'
  · exact h'
  · simp [Array.getElem?_eq_none h'] at h

theorem ObRel.grow {C : Pay α} (hC : PayOk C) {ns : Nat → Bool} {cx cx' : Cx α} (hle : CxLe C ns cx cx') {b : Option Nat} {ob : Ob α}
    (hh : ∀ b' ob', b = some b' → cx.w.heap[b']? = some ob' → cx'.w.heap[b']? = some ob') (h : ObRel C cx b ob) : ObRel C cx' b (killOb ns ob) := by
  cases ob with
  | box fz cs =>
    obtain ⟨b', cells, T, rfl, hb, hs, h1, hr⟩ := h
    refine ⟨b', cells, T, rfl, hh b' _ rfl hb, by rw [killL_length]; exact hs, h1, fun i v c hv hc => ?_⟩
    rw [killL_get] at hc
    obtain ⟨c', hc', rfl⟩ := Option.map_eq_some_iff.1 hc
    exact RD.kill hC hle (hr i v c' hv hc')
  | arr fz p =>
    cases b with
    | none => exact h
    | some b' =>
      obtain ⟨cells, T, hb, hs, hbg, h1, hr⟩ := h
      refine ⟨cells, T, hh b' _ rfl hb, hs, hbg, h1, fun i j v d hi hv hd => ?_⟩
      have := RD.kill hC hle (hr i j v d hi hv hd)
      rwa [kill_closed ns d (hC.clo p i d (List.mem_of_getElem? hd))] at this

theorem killOb_none (ob : Ob α) : killOb (fun _ => false) ob = ob := by
  cases ob <;> simp [killOb, killL_none]

theorem Sim.grow {X : Ctx α} (hC : PayOk X.C) {g : Gh} {tm : List (D α)} {hs : Obs α} {a : Act} {w w' : World} (h : Sim X g tm hs a w) (hb : Below w.heap.size w w') :
    Sim X g tm hs a w' := by
  have hle := cxLe_grow X.C (g := g) (hs := hs) hb (fun o ob b ho hr => (h.own o ob b ho hr).2)
  refine ⟨h.size, fun t => ?_, h.dfr, fun o ob ho => ?_, h.inj, fun o ob b ho hr => ?_, ?_, h.av0, h.glob⟩
  · have := RG.kill hC hle (h.tm t)
    rwa [kill_none] at this
  · have := ObRel.grow hC hle (b := g.rho o) (fun b' ob' hr hb' => by
      show w'.heap[b']? = _
      rw [hb.block b' (h.own o ob b' ho hr).2]; exact hb') (h.obs o ob ho)
    rwa [killOb_none] at this
  · have := h.own o ob b ho hr
    exact ⟨this.1, Nat.lt_of_lt_of_le this.2 hb.size⟩
  · exact h.below.trans (hb.mono (by have := h.below.size; omega))

/-- An operand reads as what the frame's data say, where the keys hold. -/
theorem holds_all {tmps : Array Value} {ks ks' : List (Nat × Bool)} (h : holds tmps ks) (hs : ks'.all (memK ks) = true) : holds tmps ks' := by
  intro k hk
  have h1 := List.all_eq_true.1 hs k hk
  have h2 : ∀ l : List (Nat × Bool), memK l k = true → k ∈ l := by
    intro l
    induction l with
    | nil => simp [memK]
    | cons x r ih =>
      obtain ⟨a, b⟩ := x
      simp only [memK, Bool.or_eq_true, Bool.and_eq_true, beq_iff_eq]
      rintro (⟨h1, rfl⟩ | h)
      · obtain rfl := Nat.eq_of_beq_eq_true h1
        exact List.mem_cons_self
      · exact List.mem_cons_of_mem _ (ih h)
  exact h k (h2 ks h1)

theorem RG.strip {C : Pay α} {cx : Cx α} {tmps : Array Value} {v : Value} {d : D α} {ks : List (Nat × Bool)} (hk : holds tmps ks) (h : RG C cx tmps v d) :
    RD C cx v (strip ks d) := by
  cases d
  case gd ks' t d =>
    simp only [Eng.strip]
    cases hs : ks'.all (memK ks) with
    | true => exact (h.1 (holds_all hk hs)).2
    | false => exact .bad _
  all_goals exact h

theorem inR_of {k : IntKind} {n : Int} (h : inR k n = true) : lo k ≤ n ∧ n ≤ hi k := by
  simpa [inR] using h

theorem ofV1_sound (C : Pay α) (cx : Cx α) (v : Value) : RD C cx v (ofV1 v) := by
  unfold ofV1
  split
  · exact .bool _
  · cases h : inR _ _ with
    | true => exact .int _ _ h
    | false => exact .bad _
  · cases h : Nat.ble _ _ with
    | true => exact .str _ _ rfl (Nat.le_of_ble_eq_true h)
    | false => exact .bad _
  · exact .nilP
  · exact .nilS
  · exact .nilF
  · exact .nilI
  · exact .nilM
  · exact .bad _

theorem ofV_sound (C : Pay α) (cx : Cx α) (v : Value) : RD C cx v (ofV v) := by
  unfold ofV
  split
  · rename_i cs
    cases hv : cs.toList.all Value.oneCell' with
    | false => exact .bad _
    | true =>
    refine .agg _ _ (by simp) (fun i v h => ?_) (fun i v c h hc => ?_)
    · simp only [List.all_eq_true] at hv
      exact hv v (Array.mem_toList_iff.2 (Array.mem_of_getElem? h))
    · simp only [List.getElem?_map, Array.getElem?_toList, h, Option.map_some, Option.some.injEq] at hc
      subst hc
      exact ofV1_sound C cx v
  · exact ofV1_sound C cx _

end Go.Eng

/-
  THE ENGINE, PART B: WHAT IT MEANS THAT A VALUE READS AS DATA, and how that stays.
-/
import Derived.Test.YtlfohmdclcdejaaDoorEngA
import Derived.Below
namespace Go.Eng
open Go.RowKit

variable {α : Type}

structure Cx (α : Type) where
  w : World
  av : Nat → Prop
  bx : Nat → Option Nat
  ar : Nat → Option (Option Nat × α)

def okK (k : SK) (a : Option Addr) (n c : Nat) : Prop :=
  match k with
  | .any => True
  | .full => c = n
  | .nil b => a.isNone = b

inductive RD (C : Pay α) (cx : Cx α) : Value → D α → Prop
  | bool (b : Bool) : RD C cx (.bool b) (.bool b)
  | int (k : IntKind) (n : Int) (h : inR k n = true) : RD C cx (.int k n) (.int k n)
  | str (s : ByteArray) (l : List UInt8) (h : s.data.toList = l) (hl : l.length ≤ big) : RD C cx (.string s) (.str l)
  | nilP : RD C cx (.pointer none) .nilP
  | nilS : RD C cx (.slice none 0 0) .nilS
  | nilF : RD C cx .nilFunc .nilF
  | nilI : RD C cx .nilIface .nilI
  | nilM : RD C cx (.map none) .nilM
  | lit (v : Value) : RD C cx v (.lit v)
  | agg (vs : Array Value) (cs : List (D α)) (hs : vs.size = cs.length) (h1 : ∀ (i : Nat) v, vs[i]? = some v → v.oneCell' = true)
      (h : ∀ (i : Nat) v c, vs[i]? = some v → cs[i]? = some c → RD C cx v c) : RD C cx (.agg vs) (.agg cs)
  | tup (vs : Array Value) (cs : List (D α)) (hs : vs.size = cs.length)
      (h : ∀ (i : Nat) v c, vs[i]? = some v → cs[i]? = some c → RD C cx v c) : RD C cx (.tuple vs) (.tup cs)
  | pl0 (a : Option Addr) (c : Nat) (p : α) (k : SK) (hl : C.len p = 0) (hk : okK k a 0 c) : RD C cx (.slice a 0 c) (.pl p k)
  | pl (b off n c : Nat) (p : α) (k : SK) (vs : Nat → Nat → Value) (hn : n = C.len p) (hc : n ≤ c) (hb : n * C.bys p ≤ big)
      (hk : okK k (some ⟨b, off, none⟩) n c) (hav : ¬ cx.av b)
      (hcell : ∀ (i j : Nat) d, i < n → (C.elem p i)[j]? = some d → cx.w.cell? ⟨b, off + (i * C.esz p + j), none⟩ = some (vs i j))
      (h1 : ∀ (i j : Nat) d, i < n → (C.elem p i)[j]? = some d → (vs i j).oneCell' = true)
      (hrd : ∀ (i j : Nat) d, i < n → (C.elem p i)[j]? = some d → RD C cx (vs i j) d) : RD C cx (.slice (some ⟨b, off, none⟩) n c) (.pl p k)
  | arrO (o b : Nat) (p : α) (n c : Nat) (ho : cx.ar o = some (some b, p)) (hn : n = C.len p) (hc : n ≤ c)
      (hsz : ∃ cells T fz, cx.w.heap[b]? = some (.cells cells T fz) ∧ c * C.esz p ≤ cells.size) : RD C cx (.slice (some ⟨b, 0, none⟩) n c) (.arr o)
  | arrN (o : Nat) (p : α) (a : Option Addr) (ho : cx.ar o = some (none, p)) (hn : C.len p = 0) : RD C cx (.slice a 0 0) (.arr o)
  | ptr (o off b : Nat) (ho : cx.bx o = some b) : RD C cx (.pointer (some ⟨b, off, none⟩)) (.ptr o off)
  | epr (o i off b : Nat) (p : α) (ho : cx.ar o = some (some b, p)) (hi : i < C.len p) : RD C cx (.pointer (some ⟨b, i * C.esz p + off, none⟩)) (.epr o i off)
  | ref (b off : Nat) (cs : List (D α)) (vs : Nat → Value) (hav : cs ≠ [] → ¬ cx.av b)
      (hcell : ∀ (i : Nat) c, cs[i]? = some c → cx.w.cell? ⟨b, off + i, none⟩ = some (vs i))
      (h1 : ∀ (i : Nat) c, cs[i]? = some c → (vs i).oneCell' = true)
      (hrd : ∀ (i : Nat) c, cs[i]? = some c → RD C cx (vs i) c) : RD C cx (.pointer (some ⟨b, off, none⟩)) (.ref cs)
  | fn (f : FuncId) (vs : Array Value) (cs : List (D α)) (hs : vs.size = cs.length)
      (h : ∀ (i : Nat) v c, vs[i]? = some v → cs[i]? = some c → RD C cx v c) : RD C cx (.func (.func f) #[] vs) (.fn f cs)
  | ifc (t : TypeId) (v : Value) (d : D α) (h : RD C cx v d) : RD C cx (.iface t v) (.ifc t d)
  | ifa (t : TypeId) (v : Value) : RD C cx (.iface t v) .ifa
  | ow (k : List Nat) (v : Value) (d : D α) (h : RD C cx v d) : RD C cx v (.ow k d)
  | bad (v : Value) : RD C cx v .bad

/-- The laws of typed lists. -/
inductive Dle (C : Pay α) : D α → D α → Prop
  | same (d : D α) : Dle C d d
  | nil (p : α) (h : C.len p = 0) : Dle C .nilS (.pl p .any)
  | any (p : α) (k : SK) : Dle C (.pl p k) (.pl p .any)

structure PayOk (C : Pay α) : Prop where
  pos : ∀ p, 0 < C.esz p
  bpos : ∀ p, 0 < C.bys p
  elen : ∀ p i, i < C.len p → (C.elem p i).length = C.esz p
  clo : ∀ p i d, d ∈ C.elem p i → closed d = true
  emp : ∀ t p, C.emp t = some p → C.len p = 0
  snoc : ∀ p cs q, C.snoc p cs = some q → C.len q = C.len p + 1 ∧ C.esz q = C.esz p ∧ C.bys q = C.bys p ∧ (∀ i, i < C.len p → C.elem q i = C.elem p i) ∧
    cs.length = C.esz p ∧ ∀ (j : Nat) d d', cs[j]? = some d → (C.elem q (C.len p))[j]? = some d' → Dle C d d'
  cat : ∀ p q r, C.cat p q = some r → C.len r = C.len p + C.len q ∧ C.esz r = C.esz p ∧ C.bys r = C.bys p ∧ C.esz q = C.esz p ∧
    (∀ i, i < C.len p → C.elem r i = C.elem p i) ∧ (∀ i, i < C.len q → C.elem r (C.len p + i) = C.elem q i)
  cut : ∀ p a n, a + n ≤ C.len p → C.len (C.cut p a n) = n ∧ C.esz (C.cut p a n) = C.esz p ∧ C.bys (C.cut p a n) = C.bys p ∧ ∀ i, i < n → C.elem (C.cut p a n) i = C.elem p (a + i)
  set : ∀ p i cs q, i < C.len p → C.set p i cs = some q → C.len q = C.len p ∧ C.esz q = C.esz p ∧ C.bys q = C.bys p ∧ (∀ j, j ≠ i → C.elem q j = C.elem p j) ∧
    cs.length = C.esz p ∧ ∀ (j : Nat) d d', cs[j]? = some d → (C.elem q i)[j]? = some d' → Dle C d d'
  bytes : ∀ p l, C.bytes p = some l → C.len p = l.length ∧ C.esz p = 1 ∧ ∀ i (h : i < l.length), C.elem p i = [.int .u8 l[i].toNat]
  ofBytes : ∀ t l p, C.ofBytes t l = some p → C.bytes p = some l ∧ C.bys p = 1

theorem RD.le {C : Pay α} {cx : Cx α} {v : Value} {d d' : D α} (h : RD C cx v d) (hl : Dle C d d') : RD C cx v d' := by
  cases hl with
  | same => exact h
  | nil p h0 => cases h; exact .pl0 _ _ _ _ h0 trivial
  | any p k =>
    cases h with
    | pl0 a c _ _ hl hk => exact .pl0 _ _ _ _ hl trivial
    | pl b off n c _ _ vs hn hc hb hk hav hcell h1 hrd => exact .pl b off n c p .any vs hn hc hb trivial hav hcell h1 hrd

/-- What stays of a reading: memory that is not to be written, names. -/
structure CxLe (C : Pay α) (ns : Nat → Bool) (cx cx' : Cx α) : Prop where
  cell : ∀ (b : Nat) ob, ¬ cx.av b → cx.w.heap[b]? = some ob → cx'.w.heap[b]? = some ob
  av : ∀ (b : Nat) ob, cx.w.heap[b]? = some ob → ¬ cx.av b → ¬ cx'.av b
  bx : ∀ o b, ns o = false → cx.bx o = some b → cx'.bx o = some b
  ar : ∀ o b p, ns o = false → cx.ar o = some (b, p) → ∃ q, cx'.ar o = some (b, q) ∧ C.len q = C.len p ∧ C.esz q = C.esz p
  size : ∀ (b : Nat) cells T fz, cx.w.heap[b]? = some (.cells cells T fz) → ∃ cells' T' fz', cx'.w.heap[b]? = some (.cells cells' T' fz') ∧ cells'.size = cells.size

theorem cell_some {w : World} {b off : Nat} {v : Value} (h : w.cell? ⟨b, off, none⟩ = some v) : ∃ ob, w.heap[b]? = some ob := by
  unfold World.cell? at h
  revert h
  cases hb : w.heap[b]? with
  | none => simp
  | some ob => intro _; exact ⟨ob, rfl⟩

theorem cell_of_heap {w w' : World} {b off : Nat} (h : w'.heap[b]? = w.heap[b]?) : w'.cell? ⟨b, off, none⟩ = w.cell? ⟨b, off, none⟩ := by
  unfold World.cell?; simp only; rw [h]

theorem CxLe.cells {C : Pay α} {ns : Nat → Bool} {cx cx' : Cx α} (h : CxLe C ns cx cx') {b off : Nat} {v : Value} (hav : ¬ cx.av b) (hc : cx.w.cell? ⟨b, off, none⟩ = some v) :
    cx'.w.cell? ⟨b, off, none⟩ = some v := by
  obtain ⟨ob, hb⟩ := cell_some hc
  rw [cell_of_heap (w := cx.w)]; exact hc
  rw [hb]; exact h.cell b ob hav hb

theorem killL_get (ns : Nat → Bool) : ∀ (cs : List (D α)) (i : Nat), (killL ns cs)[i]? = (cs[i]?).map (kill ns)
  | [], i => by simp [killL]
  | d :: r, 0 => by simp [killL]
  | d :: r, i + 1 => by simp [killL, killL_get ns r i]

theorem killL_length (ns : Nat → Bool) : ∀ (cs : List (D α)), (killL ns cs).length = cs.length
  | [] => by simp [killL]
  | d :: r => by simp [killL, killL_length ns r]

mutual
theorem kill_closed (ns : Nat → Bool) : ∀ (d : D α), closed d = true → kill ns d = d
  | .bool _, _ | .int _ _, _ | .str _, _ | .nilP, _ | .nilS, _ | .nilF, _ | .nilI, _ | .nilM, _ | .lit _, _ | .pl _ _, _ | .ifa, _ | .bad, _ => by simp [kill]
  | .arr _, h | .ptr _ _, h | .epr _ _ _, h | .gd _ _ _, h => by simp [closed] at h
  | .agg cs, h => by simp only [closed] at h; simp [kill, killL_closed ns cs h]
  | .tup cs, h => by simp only [closed] at h; simp [kill, killL_closed ns cs h]
  | .ref cs, h => by simp only [closed] at h; simp [kill, killL_closed ns cs h]
  | .fn f cs, h => by simp only [closed] at h; simp [kill, killL_closed ns cs h]
  | .ifc t d, h => by simp only [closed] at h; simp [kill, kill_closed ns d h]
  | .ow k d, h => by simp only [closed] at h; simp [kill, kill_closed ns d h]
theorem killL_closed (ns : Nat → Bool) : ∀ (cs : List (D α)), closedL cs = true → killL ns cs = cs
  | [], _ => by simp [killL]
  | d :: r, h => by
    simp only [closedL, Bool.and_eq_true] at h
    simp [killL, kill_closed ns d h.1, killL_closed ns r h.2]
end

mutual
theorem kill_none : ∀ (d : D α), kill (fun _ => false) d = d
  | .bool _ | .int _ _ | .str _ | .nilP | .nilS | .nilF | .nilI | .nilM | .lit _ | .pl _ _ | .ifa | .bad => by simp [kill]
  | .arr _ | .ptr _ _ | .epr _ _ _ => by simp [kill]
  | .gd ks t d => by simp [kill, kill_none d]
  | .agg cs => by simp [kill, killL_none cs]
  | .tup cs => by simp [kill, killL_none cs]
  | .ref cs => by simp [kill, killL_none cs]
  | .fn f cs => by simp [kill, killL_none cs]
  | .ifc t d => by simp [kill, kill_none d]
  | .ow k d => by simp [kill, kill_none d]
theorem killL_none : ∀ (cs : List (D α)), killL (fun _ => false) cs = cs
  | [] => by simp [killL]
  | d :: r => by simp [killL, kill_none d, killL_none r]
end

theorem RD.kill {C : Pay α} (hC : PayOk C) {ns : Nat → Bool} {cx cx' : Cx α} (hle : CxLe C ns cx cx') {v : Value} {d : D α} (h : RD C cx v d) : RD C cx' v (kill ns d) := by
  induction h with
  | bool b => exact .bool b
  | int k n h => exact .int k n h
  | str s l h hl => exact .str s l h hl
  | nilP => exact .nilP
  | nilS => exact .nilS
  | nilF => exact .nilF
  | nilI => exact .nilI
  | nilM => exact .nilM
  | lit v => exact .lit v
  | agg vs cs hs h1 h ih =>
    refine .agg vs _ (by rw [killL_length]; exact hs) h1 fun i v c hv hc => ?_
    rw [killL_get] at hc
    obtain ⟨c', hc', rfl⟩ := Option.map_eq_some_iff.1 hc
    exact ih i v c' hv hc'
  | tup vs cs hs h ih =>
    refine .tup vs _ (by rw [killL_length]; exact hs) fun i v c hv hc => ?_
    rw [killL_get] at hc
    obtain ⟨c', hc', rfl⟩ := Option.map_eq_some_iff.1 hc
    exact ih i v c' hv hc'
  | pl0 a c p k hl hk => exact .pl0 a c p k hl hk
  | pl b off n c p k vs hn hc hb hk hav hcell h1 hrd ih =>
    by_cases h0 : 0 < n
    case neg =>
      have : n = 0 := by omega
      subst this
      exact .pl0 _ _ _ _ hn.symm hk
    have hel : 0 < (C.elem p 0).length := by rw [hC.elen p 0 (by omega)]; exact hC.pos p
    have h00 := hcell 0 0 (C.elem p 0)[0] h0 (by simp [hel])
    obtain ⟨ob, hob⟩ := cell_some h00
    refine .pl b off n c p k vs hn hc hb hk (hle.av b ob hob hav) (fun i j d hi hd => hle.cells hav (hcell i j d hi hd)) h1 fun i j d hi hd => ?_
    have := ih i j d hi hd
    rwa [kill_closed ns d (hC.clo p i d (List.mem_of_getElem? hd))] at this
  | arrO o b p n c ho hn hc hsz =>
    simp only [Eng.kill]
    cases hns : ns o with
    | true => exact .bad _
    | false =>
      obtain ⟨cells, T, fz, hh, hs⟩ := hsz
      obtain ⟨cells', T', fz', hh', hs'⟩ := hle.size b cells T fz hh
      obtain ⟨q, hq, hl, hz⟩ := hle.ar o _ _ hns ho
      exact .arrO o b q n c hq (by omega) hc ⟨cells', T', fz', hh', by rw [hz]; omega⟩
  | arrN o p a ho hn =>
    simp only [Eng.kill]
    cases hns : ns o with
    | true => exact .bad _
    | false =>
      obtain ⟨q, hq, hl, hz⟩ := hle.ar o _ _ hns ho
      exact .arrN o q a hq (by omega)
  | ptr o off b ho =>
    simp only [Eng.kill]
    cases hns : ns o with
    | true => exact .bad _
    | false => exact .ptr o off b (hle.bx o _ hns ho)
  | epr o i off b p ho hi =>
    simp only [Eng.kill]
    cases hns : ns o with
    | true => exact .bad _
    | false =>
      obtain ⟨q, hq, hl, hz⟩ := hle.ar o _ _ hns ho
      show RD C cx' (.pointer (some ⟨b, i * C.esz p + off, none⟩)) (.epr o i off)
      rw [← hz]
      exact .epr o i off b q hq (by omega)
  | ref b off cs vs hav hcell h1 hrd ih =>
    cases hcs : cs with
    | nil =>
      simp only [Eng.kill, killL]
      exact .ref b off [] vs (by simp) (by simp) (by simp) (by simp)
    | cons c0 r =>
      have h00 := hcell 0 c0 (by simp [hcs])
      obtain ⟨ob, hob⟩ := cell_some h00
      subst hcs
      refine .ref b off _ vs (fun _ => hle.av b ob hob (hav (by simp))) (fun i c hc => ?_) (fun i c hc => ?_) fun i c hc => ?_
      all_goals
        rw [killL_get] at hc
        obtain ⟨c', hc', rfl⟩ := Option.map_eq_some_iff.1 hc
      · exact hle.cells (hav (by simp)) (hcell i c' hc')
      · exact h1 i c' hc'
      · exact ih i c' hc'
  | fn f vs cs hs h ih =>
    refine .fn f vs _ (by rw [killL_length]; exact hs) fun i v c hv hc => ?_
    rw [killL_get] at hc
    obtain ⟨c', hc', rfl⟩ := Option.map_eq_some_iff.1 hc
    exact ih i v c' hv hc'
  | ifc t v d h ih => exact .ifc t v _ ih
  | ifa t v => exact .ifa t v
  | ow k v d h ih => exact .ow k v _ ih
  | bad v => exact .bad v

end Go.Eng

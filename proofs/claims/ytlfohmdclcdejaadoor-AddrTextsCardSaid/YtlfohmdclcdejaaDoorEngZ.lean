/-
  FROM THE ENGINE's ANSWER TO THE ROW: laid variables, the arguments read again, the result.
-/
import Derived.Test.YtlfohmdclcdejaaDoorEngY
import Derived.ChangeSame
import Derived.LaidMore
import Derived.MakeChecks
import Derived.WideKeyArgs
import Derived.Lib.LaidTab
namespace Go.Eng
open Go.RowKit Go.ChangeShapes Go.WideShapes

section
variable {P : Program} {W : World} {emp : TypeId → Option Ty}

theorem laid_mem : ∀ (l : List (String × DataW Unit)) (ps : List MemPlace), DataW.LaidVars P W l ps → ∀ n d, (n, d) ∈ l →
    ∃ g t cs fuel p, P.globalNamed n = some g ∧ (P.globals[g]?).map (·.type) = some t ∧ W.var? P n = some cs ∧ DataW.trod (fun _ => ()) P W 0 (fun _ => true) false fuel t cs.toList = some (d, p)
  | [], _, _, n, d, h => by simp at h
  | (n', d') :: r, ps, hl, n, d, h => by
    obtain ⟨g, t, cs, fuel, p, q, h1, h2, h3, h4, h5, _⟩ := hl
    rcases List.mem_cons.1 h with h | h
    · simp only [Prod.mk.injEq] at h
      obtain ⟨rfl, rfl⟩ := h
      exact ⟨g, t, cs, fuel, p, h1, h2, h3, h4⟩
    · exact laid_mem r q h5 n d h

theorem var_size {n : String} {g : Nat} {cs : Array Value} {k : Nat} (hg : P.globalNamed n = some g) (hv : W.var? P n = some cs) (hk : cs.size = k) : GSz W g k := by
  unfold World.var? at hv
  rw [hg] at hv
  simp only [Option.bind_some] at hv
  split at hv
  · rename_i cs' T fz hh
    simp only [Option.some.injEq] at hv
    subst hv
    exact ⟨cs', T, fz, hh, hk⟩
  · simp at hv

/-- A laid table of numbers. -/
theorem glob_tab {l : List (String × DataW Unit)} (hp : (l.all fun x => x.2.handleName?.isNone) = true) (hL : laidMetH P l W) {n : String} {k : IntKind} {zs : List Int} (hm : (n, Lib.tabData k zs) ∈ l)
    {g : Nat} (hg : P.globalNamed n = some g) {t e : TypeId} (ht : (P.globals[g]?).map (·.type) = some t) {m : Nat} (hu : P.underlying t = some (.array m e)) (he : P.underlying e = some (.int k)) (hce : P.cellsOf e = 1) (hct : P.cellsOf t = m)
    (hz : zs.all (inR k) = true) (av : Nat → Prop) (hav : ¬ av g) :
    RD (plC emp) (cx0 W av) (.pointer (some ⟨g, 0, none⟩)) (.ref (zs.map fun z => .int k z)) ∧ GSz W g (zs.map fun z => (.int k z : D Pl)).length := by
  rw [MakeChecks.laidMetH_plain _ _ _ hp] at hL
  obtain ⟨ps, hlv, _, _⟩ := hL
  obtain ⟨g', t', cs, fuel, p, e1, e2, e3, e4⟩ := laid_mem l ps hlv n _ hm
  obtain rfl := Option.some.inj (hg.symm.trans e1)
  obtain rfl := Option.some.inj (ht.symm.trans e2)
  have hcs := Lib.cells_of_tab hu he hce hct e4
  have hcell : ∀ (i : Nat) z, zs[i]? = some z → W.cell? ⟨g, 0 + i, none⟩ = some (.int k z) := by
    intro i z hi
    have := World.var?_cell e1 e3 i
    rw [show 0 + i = i by omega, this, ← Array.getElem?_toList, hcs, List.getElem?_map, hi]; rfl
  refine ⟨.ref g 0 _ (fun i => .int k (zs.getD i 0)) (fun _ => hav) (fun i c hc => ?_) (fun i c hc => rfl) fun i c hc => ?_, var_size e1 e3 (by rw [← Array.length_toList, hcs]; simp)⟩
  · rw [List.getElem?_map] at hc
    obtain ⟨z, hz', rfl⟩ := Option.map_eq_some_iff.1 hc
    refine (hcell i z hz').trans ?_
    rw [List.getD_eq_getElem?_getD, hz']; rfl
  · rw [List.getElem?_map] at hc
    obtain ⟨z, hz', rfl⟩ := Option.map_eq_some_iff.1 hc
    rw [List.getD_eq_getElem?_getD, hz']
    exact .int _ _ (List.all_eq_true.1 hz z (List.mem_of_getElem? hz'))

/-- A laid variable that holds something in an interface. -/
theorem glob_ifa {l : List (String × DataW Unit)} (hp : (l.all fun x => x.2.handleName?.isNone) = true) (hL : laidMetH P l W) {n tn : String} {d : DataW Unit} (hm : (n, DataW.iface tn d) ∈ l)
    {g : Nat} (hg : P.globalNamed n = some g) {t : TypeId} (ht : (P.globals[g]?).map (·.type) = some t) {ms : Array (String × TypeId)} (hu : P.underlying t = some (.interface ms)) (av : Nat → Prop) (hav : ¬ av g) :
    RD (plC emp) (cx0 W av) (.pointer (some ⟨g, 0, none⟩)) (.ref [.ifa]) ∧ GSz W g 1 := by
  rw [MakeChecks.laidMetH_plain _ _ _ hp] at hL
  obtain ⟨ps, hlv, _, _⟩ := hL
  obtain ⟨g', t', cs, fuel, p, e1, e2, e3, e4⟩ := laid_mem l ps hlv n _ hm
  obtain rfl := Option.some.inj (hg.symm.trans e1)
  obtain rfl := Option.some.inj (ht.symm.trans e2)
  have hcs : ∃ u v, cs.toList = [.iface u v] := by
    generalize cs.toList = l at e4
    cases fuel with
    | zero => simp [DataW.trod] at e4
    | succ fuel =>
      match l with
      | [] => simp [DataW.trod, hu] at e4
      | v :: w :: r => simp [DataW.trod, hu] at e4
      | [v] =>
        cases v
        case iface u v => exact ⟨u, v, rfl⟩
        all_goals simp [DataW.trod, hu] at e4
  obtain ⟨u, v, hcs⟩ := hcs
  have hcell : W.cell? ⟨g, 0, none⟩ = some (.iface u v) := by
    rw [World.var?_cell e1 e3 0, ← Array.getElem?_toList, hcs]; rfl
  refine ⟨.ref g 0 _ (fun _ => .iface u v) (fun _ => hav) (fun i c hc => ?_) (fun i c hc => rfl) fun i c hc => ?_, var_size e1 e3 (by rw [← Array.length_toList, hcs]; rfl)⟩
  · match i, hc with
    | 0, _ => exact hcell
    | i + 1, hc => simp at hc
  · match i, hc with
    | 0, hc => simp only [List.getElem?_cons_zero, Option.some.injEq] at hc; subst hc; exact .ifa u v
    | i + 1, hc => simp at hc

/-- A laid variable of two numbers. -/
theorem glob_pair {l : List (String × DataW Unit)} (hp : (l.all fun x => x.2.handleName?.isNone) = true) (hL : laidMetH P l W) {n : String} {a b : Int} (hm : (n, DataW.agg [.lit (.int .i64 a), .lit (.int .i64 b)]) ∈ l)
    {g : Nat} (hg : P.globalNamed n = some g) {t : TypeId} (ht : (P.globals[g]?).map (·.type) = some t) {f0 f1 : Field} (hu : P.underlying t = some (.struct #[f0, f1])) (h0 : P.underlying f0.type = some (.int .i64)) (h1 : P.underlying f1.type = some (.int .i64))
    (ho0 : f0.offset = 0) (ho1 : f1.offset = 1) (hc0 : P.cellsOf f0.type = 1) (hc1 : P.cellsOf f1.type = 1) (ha : inR .i64 a = true) (hb : inR .i64 b = true) (av : Nat → Prop) (hav : ¬ av g) (hct : P.cellsOf t = 2) :
    RD (plC emp) (cx0 W av) (.pointer (some ⟨g, 0, none⟩)) (.ref [.int .i64 a, .int .i64 b]) ∧ GSz W g 2 := by
  rw [MakeChecks.laidMetH_plain _ _ _ hp] at hL
  obtain ⟨ps, hlv, _, _⟩ := hL
  obtain ⟨g', t', cs, fuel, p, e1, e2, e3, e4⟩ := laid_mem l ps hlv n _ hm
  obtain rfl := Option.some.inj (hg.symm.trans e1)
  obtain rfl := Option.some.inj (ht.symm.trans e2)
  obtain ⟨y0, y1, m, hx, hl, hd0, hd1⟩ := trod_struct2 hu e4
  rw [ho0, hc0] at hd0
  rw [ho1, hc1] at hd1
  obtain ⟨n0, c0, rfl, _⟩ := DataW.trod_int h0 hd0
  obtain ⟨n1, c1, rfl, _⟩ := DataW.trod_int h1 hd1
  simp only [Prod.mk.injEq, DataW.agg.injEq, List.cons.injEq, DataW.lit.injEq, Lit.int.injEq, true_and, and_true] at hx
  obtain ⟨⟨rfl, rfl⟩, _⟩ := hx
  have q0 : cs.toList[0]? = some (.int .i64 a) := cell_of_cut c0
  have q1 : cs.toList[1]? = some (.int .i64 b) := cell_of_cut c1
  have k0 := World.var?_cell e1 e3 0
  have k1 := World.var?_cell e1 e3 1
  rw [show cs[0]? = some (.int .i64 a) by simpa using q0] at k0
  rw [show cs[1]? = some (.int .i64 b) by simpa using q1] at k1
  refine ⟨?_, var_size e1 e3 (by rw [← Array.length_toList, hl, hct])⟩
  refine .ref g 0 _ (fun i => match i with
    | 0 => .int .i64 a
    | _ => .int .i64 b) (fun _ => hav) (fun i c hc => ?_) (fun i c hc => ?_) fun i c hc => ?_
  all_goals
    match i, hc with
    | 0, hc => simp only [List.getElem?_cons_zero, Option.some.injEq] at hc; subst hc; first | exact k0 | rfl | exact .int _ _ ha
    | 1, hc => simp only [List.getElem?_cons_succ, List.getElem?_cons_zero, Option.some.injEq] at hc; subst hc; first | exact k1 | rfl | exact .int _ _ hb
    | i + 2, hc => simp at hc

variable {H : Type} {enc : TypeId × Value → H}

theorem trodAll_stays (hl : laidOutB P = true) {W' : World} {sp : Nat → Bool} : ∀ (ts : List TypeId) (vs : List Value) (ds : List (DataW H)) (ps : List MemPlace), (∀ t ∈ ts, P.readableRec t = true ∧ t < P.types.size) →
    DataW.TrodAll enc P W 0 (fun _ => true) true ts vs ds ps → (∀ p ∈ ps, W.sameAt W' p) → (∀ p ∈ ps, sp p.block = true) → DataW.TrodAll enc P W' 0 sp true ts vs ds ps
  | [], vs, ds, ps, _, h, _, _ => by
    obtain ⟨rfl, rfl, rfl⟩ := trodAll_nil h
    exact trodAll_mk0
  | t :: ts, vs, ds, ps, hr, h, h1, h2 => by
    obtain ⟨v, vs', d, ds', p, q, rfl, rfl, rfl, hd, hrest⟩ := trodAll_cons h
    have ht := hr t List.mem_cons_self
    exact ⟨p, q, WideElems.Trod_stays hl ht.1 ht.2 hd (fun x hx => h1 x (List.mem_append_left _ hx)) (fun x hx => h2 x (List.mem_append_left _ hx)),
      trodAll_stays hl ts vs' ds' q (fun t ht => hr t (List.mem_cons_of_mem _ ht)) hrest (fun x hx => h1 x (List.mem_append_right _ hx)) (fun x hx => h2 x (List.mem_append_right _ hx)), rfl⟩

/-- WHAT THE ROW ASKS, where the answer is true and nothing that was there has turned. -/
theorem close_true {fn : Func} {s : ChangeSpec} {tb : TypeId} (hl : laidOutB P = true) (hr : ∀ t ∈ fn.params.toList, P.readableRec t = true ∧ t < P.types.size) (hres : fn.resultTypes = #[tb]) (htb : P.underlying tb = some .bool)
    {args : Array Value} {ds gs : List (DataW H)} {before : List MemPlace} (hW : DataW.Whole enc P fn.params.toList s.vars false W args.toList ds gs before) (hv : s.vars = [])
    (hfn : (s.fn H (ds ++ gs)) = { results := [.lit (.bool true)], args := ds }) {W' : World} (hb : Below W.heap.size W W') :
    s.post enc P fn false true false false W args (.bool true) W' := by
  have hW' := hW
  obtain ⟨p, q, hA, hV, hpq, hfz, hnd⟩ := hW'
  rw [hv] at hV
  obtain ⟨rfl, rfl⟩ := trodVars_none hV
  rw [List.append_nil] at hpq
  subst hpq
  have hlt : ∀ x ∈ before, x.block < W.heap.size := fun x hx => by simpa using hW.lt x hx
  refine ⟨ds, [], before, [], before, [], hW, ?_, ?_, ?_, hb.frame _, fun h => by cases h⟩
  · rw [hfn, hres]
    exact trodAll_mk1 (shut_bool htb _)
  · rw [hfn]
    exact trodAll_stays hl _ _ _ _ hr hA (fun x hx => hb.same (hlt x hx)) (fun x hx => by simpa using hlt x hx)
  · rw [hfn, hv]
    exact rfl

theorem calls_of {f : FuncId} {vs : Array Value} {w : World} {R : Value → World → Prop} {fn : Func} (hf : P.funcs[f]? = some fn) (hn : (fn.name == "runtime.NumGoroutine") = false) (hb : fn.body.isNone = false) (h : CallOk P f vs w R) :
    Calls P f vs w fun e w' => ∃ v, e = .returned v ∧ R v w' := by
  have hrun : (callFunc f vs).run P w = .ok (.enter f vs) w := by
    have hn' : ¬ fn.name = "runtime.NumGoroutine" := by simpa using hn
    have hb' : ¬ fn.body = none := fun h => by rw [h] at hb; simp at hb
    simp [callFunc, hf, hn', hb']
  rcases h with ⟨_, h⟩ | ⟨v, w', h, _⟩
  · exact h
  · rw [hrun] at h
    simp at h

end
end Go.Eng

/-
  slices.Collect(maps.Keys(m)) AT api.Key: the keys of the map, each once, in some order, in a row of the call's own.
-/
import Derived.Test.YtgngobcmfflcpaaDoorCollect
import Derived.Test.YtgngobcmfflcpaaDoorInv
namespace Go.Proofs.YtgngobcmfflcpaaDoor
open Go.RowKit Go.Maps Go.Eng Go.Proofs
open Go.WideElems (Fit rd rg rd_key rd_val rg_of rd_mk)

theorem got (F : Fence) (n : Nat) (h8 : F.fn 48) (h11 : F.fn 62) (h10 : F.fn 50) (hro : F.round = none) (hn : 3 ≤ n) (Bm Bo b : Nat) (w : World) (hBm : Bm < w.heap.size)
    (K : Keyed Tryd.prog kT) (hm : w.cell? ⟨Bm, Bo, none⟩ = some (.map (some b))) {es : Array MapEntry} {clock : Nat} (hb : w.heap[b]? = some (.map es clock)) {R : Value → Option (DataW Unit × List MemPlace)} (Ft : Fit Tryd.prog kT R es clock) (hN : es.size * 72 ≤ 140737488355328) :
    CallsIn F n Tryd.prog 48 #[.func (.func 50) #[] #[.pointer (some ⟨Bm, Bo, none⟩)]] w fun e w' =>
      ∃ (v : Value) (ss : List K6), e = .returned v ∧ (ss.map K6.v).Perm (es.toList.map (·.key)) ∧ w'.ownsRow w.heap.size kT 6 v ss.length (rowOf ss) ∧ (v = .slice none 0 0 ↔ ss = []) ∧ Below w.heap.size w w' := by
  have hown : w.ownsMap Tryd.prog kT R b es.size (.map ((es.toList.map (rg Tryd.prog kT R)).foldr DataW.insert [])) := ⟨es, clock, hb, Ft, Nat.le_refl _, rfl⟩
  have hsz : Maps.size (.map ((es.toList.map (rg Tryd.prog kT R)).foldr DataW.insert []) : DataW Unit) = es.size := by
    rw [Maps.size_eq, (Go.WideShapes.sorted_perm _).length_eq]
    simp
  have hseq := keys_gives F (n - 1 - 1) h10 hro (by omega) Bm Bo b es.size _ w hBm K hinv hm hown
  refine (collect_in F n h8 h11 hro hn 50 #[.pointer (some ⟨Bm, Bo, none⟩)] h10 (fun args w => by simp [callFunc, Tryd.func50, Tryd.f50]) _ _ (by rw [hsz]; exact Ft.size) (by rw [hsz]; exact hN) w hseq).mono ?_
  rintro e w' ⟨v, ss, h1, ⟨left, h2, h3⟩, h4, h5, h6⟩
  exact ⟨v, ss, h1, Coll.perm K Ft h2 h3, h4, h5, h6⟩
end Go.Proofs.YtgngobcmfflcpaaDoor

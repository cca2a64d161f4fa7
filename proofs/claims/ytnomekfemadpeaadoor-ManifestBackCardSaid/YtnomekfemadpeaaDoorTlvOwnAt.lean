/- The items of a row of the call's own, in their places. No condition. -/
import Derived.Test.YtnomekfemadpeaaDoorTlvDecode
namespace Go.Proofs.YtnomekfemadpeaaDoor
open Go.RowKit
set_option linter.unusedVariables false

theorem OwnI.cellsAt {w : World} {base : Nat} {v : Value} {l : List ItV} (h : OwnI w base v l) (h0 : 0 < l.length) : ∃ g c, v = .slice (some ⟨g, 0, none⟩) l.length c ∧ g < w.heap.size ∧
    ∀ i, i < l.length → w.cell? ⟨g, i * 2, none⟩ = some (.int .i64 ((l.map (·.1)).getD i (0, [])).1) ∧ ∃ u, w.cell? ⟨g, i * 2 + 1, none⟩ = some u ∧ Bytes w u ((l.map (·.1)).getD i (0, [])).2 ∧ ∀ k, u.ownBlock = some k → base ≤ k ∧ k < w.heap.size := by
  obtain ⟨h1, a, c, hv, h2, h3, h4, h5⟩ := Row.of_owns h.1
  obtain ⟨b, off, hab, hb, hc⟩ := h5 (by omega)
  have hoff : off = 0 := by
    rcases h.1.2 with ⟨hn, _⟩ | ⟨g, cap, cur, hv2, _⟩
    · rw [hn] at hv; simp only [Value.slice.injEq] at hv; omega
    · rw [hv2, hab] at hv; cases hv; rfl
  subst hoff
  refine ⟨b, c, by rw [hv, hab], hb, fun i hi => ?_⟩
  obtain ⟨f1, f2⟩ := flatI_at hi
  have e : (l.map (·.1)).getD i (0, []) = (l.getD i ((0, []), undef)).1 := by simp [List.getD, hi]
  have hm : l.getD i ((0, []), undef) ∈ l := by
    rw [List.getD_eq_getElem?_getD, List.getElem?_eq_getElem hi]; exact List.getElem_mem hi
  rw [e]
  have c1 := hc (i * 2) (by omega)
  have c2 := hc (i * 2 + 1) (by omega)
  rw [Nat.zero_add] at c1 c2
  exact ⟨c1.trans f1, _, c2.trans f2, (h.2 _ hm).bytes, fun k hk => (h.2 _ hm).lt k hk⟩

end Go.Proofs.YtnomekfemadpeaaDoor

/- What a listed table's cells are, at a law's call. Conditions: none. -/
import Derived.Test.YtmhmfmnjdbehcaaDoorRows
import Derived.LaidLaws
import Derived.Lib.LaidTab
import Derived.Test.YtmhmfmnjdbehcaaDoorZ1
import Derived.Test.YtmhmfmnjdbehcaaDoorZ9
set_option linter.unusedSectionVars false
namespace Go.Proofs.YtmhmfmnjdbehcaaDoor
set_option linter.unusedVariables false
set_option linter.unusedSimpArgs false
open Go
theorem laid_reads {P : Program} {w : World} : ∀ {l : List (String × DataW Unit)} {ps : List MemPlace}, DataW.LaidVars P w l ps → ∀ n d, (n, d) ∈ l →
    ∃ g t cs fuel p, P.globalNamed n = some g ∧ (P.globals[g]?).map (·.type) = some t ∧ w.var? P n = some cs ∧ DataW.trod (fun _ => ()) P w 0 (fun _ => true) false fuel t cs.toList = some (d, p)
  | [], _, _, _, _, hm => by cases hm
  | (n', d') :: r, ps, h, n, d, hm => by
    obtain ⟨g, t, cs, fuel, p, q, h1, h2, h3, h4, h5, _⟩ := h
    rcases List.mem_cons.1 hm with e | e
    · cases e
      exact ⟨g, t, cs, fuel, p, h1, h2, h3, h4⟩
    · exact laid_reads h5 n d e
/-- A listed table of integers stands in its block. -/
theorem laid_cells {W : World} {l : List (String × DataW Unit)} (h : laidMet Tryd.prog l W) {name : String} {g : Nat} {t e : TypeId} {n : Nat} {k : IntKind} {zs : List Int} (hm : (name, Lib.tabData k zs) ∈ l)
    (hg : Tryd.prog.globalNamed name = some g) (hty : (Tryd.prog.globals[g]?).map (·.type) = some t) (ht : Tryd.prog.underlying t = some (.array n e)) (he : Tryd.prog.underlying e = some (.int k)) (hce : Tryd.prog.cellsOf e = 1) (hct : Tryd.prog.cellsOf t = n) :
    g < W.heap.size ∧ g ∉ ([] : List Nat) ∧ ∃ cs ty mk, W.heap[g]? = some (.cells cs ty mk) ∧ cs.toList = zs.map (Value.int k) := by
  obtain ⟨_, hv, _⟩ := h
  obtain ⟨g', t', cs, fuel, p, h1, h2, h3, h4⟩ := laid_reads hv _ _ hm
  obtain rfl := Option.some.inj (hg.symm.trans h1)
  obtain rfl := Option.some.inj (hty.symm.trans h2)
  have hcs := Lib.cells_of_tab ht he hce hct h4
  unfold World.var? at h3
  rw [hg, Option.bind_some] at h3
  split at h3
  · rename_i cs' ty mk hh
    obtain rfl := Option.some.inj h3
    exact ⟨(Array.getElem?_eq_some_iff.1 hh).1, List.not_mem_nil, cs', ty, mk, hh, hcs⟩
  · cases h3
end Go.Proofs.YtmhmfmnjdbehcaaDoor

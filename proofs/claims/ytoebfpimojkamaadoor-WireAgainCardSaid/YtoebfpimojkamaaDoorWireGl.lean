/- What the rows of layer 24 know of the two listed package variables; a world that meets it; how an operation, an answer and bytes come in as arguments. -/
import Derived.Test.YtoebfpimojkamaaDoorRows
import Derived.Test.YtoebfpimojkamaaDoorWireAwake
import Derived.LaidLaws
import Derived.LaidHandle
import Derived.Stop.LaidErr
import Derived.Stop.Joined
namespace Go.Proofs.YtoebfpimojkamaaDoor
open Go.ChangeShapes Go.WideShapes Go.ChangeAt Go.RowKit

theorem gEt : Tryd.prog.globalNamed "errors.errorType" = some 1 := by kernel_rfl
theorem gEf : Tryd.prog.globalNamed "forerunner/wire.errForm" = some 0 := by kernel_rfl
theorem gEfT : (Tryd.prog.globals[0]?).map (·.type) = some 62 := by kernel_rfl
theorem gRt : (Tryd.prog.cutTypes.find? (·.1 == "internal/reflectlite.rtype")).map (·.2) = some 90 := by kernel_rfl
theorem gOne : ((List.range Tryd.prog.types.size).filter fun t => Tryd.prog.rowNamed t [101, 114, 114, 111, 114]) = [62] := by kernel_rfl
theorem gStar : "*" ++ "errors.errorString" = "*errors.errorString" := by decide
theorem gRow (u : TypeId) (h : Tryd.prog.typeName? 3 u = some "*errors.errorString") : u = 103 :=
  typeName_ptr_named (nm := "errors.errorString") (by rw [gStar]; kernel_rfl) (by kernel_rfl) (by decide) u (by rw [gStar]; exact h)
abbrev laidL : List (String × DataW Unit) := [("errors.errorType", Rows.laid_errors_errorType), ("forerunner/wire.errForm", Rows.laid_forerunner_wire_errForm)]

theorem gl_of_laid {W : World} (h : laidMetH Tryd.prog laidL W) : ∃ g, Gl W g := by
  have h' : laidMet Tryd.prog [("forerunner/wire.errForm", Rows.laid_forerunner_wire_errForm)] W ∧ handlesMet Tryd.prog [("errors.errorType", Rows.laid_errors_errorType)] W := h
  obtain ⟨name, u, ty, e1, e2, e3, e4, e5⟩ := h'.2 _ (List.mem_singleton.2 rfl)
  have en : name = [101, 114, 114, 111, 114] := (Option.some.inj e1).symm
  subst en
  obtain rfl := Option.some.inj (gRt.symm.trans e2)
  have hm : ty ∈ (List.range Tryd.prog.types.size).filter fun t => Tryd.prog.rowNamed t [101, 114, 114, 111, 114] := List.mem_filter.2 ⟨List.mem_range.2 e3, e4⟩
  rw [gOne] at hm
  obtain rfl := List.mem_singleton.1 hm
  have hh : typeHandle Tryd.prog 62 = hnd 62 := by kernel_rfl
  rw [hh] at e5
  have c1 : W.cell? ⟨1, 0, none⟩ = some (.iface 90 (.agg #[hnd 62])) := by simpa using World.var?_cell gEt e5 0
  obtain ⟨a, s, q1, _⟩ := laid_sentinel h'.1 gEf gEfT Tryd.underlying62 gRow Tryd.underlying103 Tryd.underlying125 rfl rfl Tryd.underlying9 (by kernel_rfl) (by kernel_rfl)
  have c0 : W.cell? ⟨0, 0, none⟩ = some (.iface 103 (.pointer (some a))) := by simpa using World.var?_cell gEf q1 0
  refine ⟨a, c0, c1, ?_⟩
  rcases Nat.lt_or_ge 1 W.heap.size with hlt | hge
  · exact hlt
  · simp [World.cell?, Array.getElem?_eq_none hge] at c1

abbrev formS : ByteArray := { data := #[110, 111, 116, 32, 105, 110, 32, 102, 111, 114, 109] }
noncomputable def lowW : Nat := (World.holding Tryd.prog default ⟨#[], #[], []⟩).heap.size
/-- A world that meets the condition. -/
noncomputable def laidWorld (os : Os) : World :=
  let w0 := World.holding Tryd.prog os ⟨#[.cells #[.string formS] 125], #[], []⟩
  { w0 with heap := (w0.heap.modify 0 fun
      | .cells _ t frozen => .cells #[.iface 103 (.pointer (some ⟨lowW, 0, none⟩))] t frozen
      | o => o).modify 1 fun
      | .cells _ t frozen => .cells #[.iface 90 (.agg #[hnd 62])] t frozen
      | o => o }
theorem laid_met (os : Os) (args : Array Value) : laidMetH Tryd.prog laidL ((laidWorld os).forCall (fun _ _ => 0) ⟨#[], args, []⟩).memory :=
  laidMetH_of_parts (laidMet_of_run (ps := [.cell 0 0, .cell lowW 0]) 8 (by kernel_rfl) (by kernel_rfl) (by kernel_rfl)) (by kernel_rfl)

end Go.Proofs.YtoebfpimojkamaaDoor

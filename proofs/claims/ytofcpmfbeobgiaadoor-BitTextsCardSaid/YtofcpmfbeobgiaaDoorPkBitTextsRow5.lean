/- Walks and plain laws for BitTextsRow, part 5. -/
import Derived.LaidMore
import Derived.LaidHandle
import Derived.MakeChecks
import Derived.Stop.LaidErr
import Derived.Lib.LaidTab
import Derived.Shelf.Vars
import Derived.HandedShaped
import Derived.Stop.LaidErr
import Derived.Test.YtofcpmfbeobgiaaDoorPkBitTextsRow4
namespace Go.Proofs.YtofcpmfbeobgiaaDoor
open Go.ChangeShapes Go.WideShapes Go.ChangeAt Go.RowKit Go.Deep
set_option linter.unusedVariables false

abbrev laidX : List (String × DataW Unit) := Rows.bitTextsRow.laid

theorem tab_type : (Tryd.prog.globals[5]?).map (·.type) = some 132 := by kernel_rfl
theorem gER : Tryd.prog.globalNamed "strconv.ErrRange" = some 1 := by kernel_rfl
theorem gERType : (Tryd.prog.globals[1]?).map (·.type) = some 50 := by kernel_rfl
theorem gES : Tryd.prog.globalNamed "strconv.ErrSyntax" = some 0 := by kernel_rfl
theorem gESType : (Tryd.prog.globals[0]?).map (·.type) = some 50 := by kernel_rfl
theorem star_err : "*" ++ "errors.errorString" = "*errors.errorString" := by decide
theorem row_err (u : TypeId) (h : Tryd.prog.typeName? 3 u = some "*errors.errorString") : u = 116 :=
  typeName_ptr_named (nm := "errors.errorString") (by rw [star_err]; kernel_rfl) (by kernel_rfl) (by decide) u (by rw [star_err]; exact h)
theorem maxLen_cell (W : World) (h : W.ShapedOpen Tryd.prog) : ∃ m, W.cell? ⟨2, 0, none⟩ = some (.int .i64 m) :=
  Go.Proofs.cell_of_shapedOpen_int (zero := #[.int .i64 0]) (t := 3) h (of_decide_eq_true (by kernel_rfl)) (by kernel_rfl) rfl (by kernel_rfl) (by kernel_rfl) Tryd.underlying3

theorem tabX_of_laid {W : World} (h : laidMetH Tryd.prog laidX W) (hs : W.ShapedOpen Tryd.prog) : TabX W := by
  rw [MakeChecks.laidMetH_plain _ _ _ (by kernel_rfl)] at h
  have h3 := (laidMet.tail (laidMet.tail h))
  have h5 := (laidMet.tail (laidMet.tail h3))
  have h6 := laidMet.tail h5
  refine ⟨?_, maxLen_cell W hs, ?_, ?_⟩
  · have e : (Rows.laid_internal_strconv_uint64pow10 : DataW Unit) = Lib.tabData .u64 Lib.pow10Tab := by kernel_rfl
    rw [e] at h3
    exact Lib.tabIs_of_head tabNamed tab_type Tryd.underlying132 Tryd.underlying104 (by kernel_rfl) (by kernel_rfl) h3
  · obtain ⟨a, s, hv, _⟩ := laid_sentinel h6 gES gESType Tryd.underlying50 row_err Tryd.underlying116 Tryd.underlying118 rfl rfl Tryd.underlying9 (by kernel_rfl) (by kernel_rfl)
    exact ⟨_, by have h0 := World.var?_cell gES hv 0; simpa using h0, .inr ⟨_, _, rfl⟩⟩
  · obtain ⟨a, s, hv, _⟩ := laid_sentinel h5 gER gERType Tryd.underlying50 row_err Tryd.underlying116 Tryd.underlying118 rfl rfl Tryd.underlying9 (by kernel_rfl) (by kernel_rfl)
    exact ⟨_, by have h0 := World.var?_cell gER hv 0; simpa using h0, .inr ⟨_, _, rfl⟩⟩
end Go.Proofs.YtofcpmfbeobgiaaDoor

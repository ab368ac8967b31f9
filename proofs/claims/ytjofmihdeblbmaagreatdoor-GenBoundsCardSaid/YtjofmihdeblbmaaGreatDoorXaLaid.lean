/- What lex's walks read of the package-level variables. -/
import Derived.Test.YtjofmihdeblbmaaGreatDoorLaidBase
import Derived.Test.YtjofmihdeblbmaaGreatDoorXaM33
namespace Go.Proofs.YtjofmihdeblbmaaGreatDoor
theorem laid_of {l : List (String × DataW Unit)} {W : World} (h : laidMet Tryz.prog l W) (hs : W.ShapedOpen Tryz.prog) (h1 : ("strconv.ErrSyntax", Rows.laid_strconv_ErrSyntax) ∈ l) (h2 : ("strconv.ErrRange", Rows.laid_strconv_ErrRange) ∈ l) : Laid W where
  maxLen := Go.Proofs.cell_of_shapedOpen_int (P := Tryz.prog) (g := 0) (t := 3) (zero := #[.int .i64 0]) hs (of_decide_eq_true (by kernel_rfl)) (by kernel_rfl) rfl (by kernel_rfl) (by kernel_rfl) Tryz.underlying3
  errS := laid_err (P := Tryz.prog) (g := 4) (by kernel_rfl) (by kernel_rfl) Tryz.underlying124 h h1
  errR := laid_err (P := Tryz.prog) (g := 5) (by kernel_rfl) (by kernel_rfl) Tryz.underlying124 h h2
end Go.Proofs.YtjofmihdeblbmaaGreatDoor

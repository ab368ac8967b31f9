/- What lex's walks read of the package-level variables. -/
import Derived.Test.YtmmndmfphcbieaaDoorLaidBase
import Derived.Test.YtmmndmfphcbieaaDoorLexD
namespace Go.Proofs.YtmmndmfphcbieaaDoor
theorem laid_of {l : List (String × DataW Unit)} {W : World} (h : laidMet Tryd.prog l W) (hs : W.ShapedOpen Tryd.prog) (h1 : ("strconv.ErrSyntax", Rows.laid_strconv_ErrSyntax) ∈ l) (h2 : ("strconv.ErrRange", Rows.laid_strconv_ErrRange) ∈ l) : Laid W where
  maxLen := Go.Proofs.cell_of_shapedOpen_int (P := Tryd.prog) (g := 0) (t := 3) (zero := #[.int .i64 0]) hs (of_decide_eq_true (by kernel_rfl)) (by kernel_rfl) rfl (by kernel_rfl) (by kernel_rfl) Tryd.underlying3
  errS := laid_err (P := Tryd.prog) (g := 1) (by kernel_rfl) (by kernel_rfl) Tryd.underlying51 h h1
  errR := laid_err (P := Tryd.prog) (g := 2) (by kernel_rfl) (by kernel_rfl) Tryd.underlying51 h h2
end Go.Proofs.YtmmndmfphcbieaaDoor

/- XA, joined: XaT. -/
import Derived.Test.YtjofmihdeblbmaaGreatDoorXaM16
import Derived.Test.YtjofmihdeblbmaaGreatDoorProg
import Derived.KernelRfl
/- XA: the types of this seat's program that the walks look at, as a table. Printed by wip/tools/XaTab.py. -/
namespace Go.Proofs.YtjofmihdeblbmaaGreatDoor.Xa
open Go
set_option maxRecDepth 100000
theorem fits_of {P : Program} {t : TypeId} {ty : Ty} (z : Value) (h1 : (P.info? t).map (fun i => (i.size, i.bytes, i.zero)) = some (ty.size, ty.bytes, some z)) (h2 : z.cells.toList.map some = ty.zero.map V.conc) (h3 : z.cells.size = ty.size) (h4 : ty.zero.all V.one = true)
    {d : TypeDesc} (hd : P.underlying t = some d) (h5 : descAgg d = ty.agg) (h6 : TDFits ty.desc d) (h7 : aggV z = ty.agg := by rfl) : TyFits P t ty := by
  refine ⟨⟨?_, d, hd, h5, h6⟩, fun i z' hi hz => ?_⟩
  case refine_2 =>
    rw [hi] at h1
    simp only [Option.map_some, Option.some.injEq, Prod.mk.injEq] at h1
    rw [hz] at h1
    obtain rfl := Option.some.inj h1.2.2
    exact h7
  obtain ⟨i, hi, he⟩ := Option.map_eq_some_iff.1 h1
  simp only [Prod.mk.injEq] at he
  exact ⟨i, z, hi, he.1, he.2.1, he.2.2, h2, by rw [h3, he.1], fun v hv => List.all_eq_true.1 h4 v hv⟩
@[reducible] def ty1 : Ty := { size := 1, bytes := 8, agg := false, zero := [.lit .nilFunc], desc := .other }   -- func()
theorem fits1 : TyFits Tryz.prog 1 ty1 := fits_of (.nilFunc) (by kernel_rfl) (by kernel_rfl) (by kernel_rfl) (by kernel_rfl) Tryz.underlying1 (by kernel_rfl) (trivial)
@[reducible] def ty2 : Ty := { size := 1, bytes := 8, agg := false, zero := [.lit (.int .i64 0)], desc := .int .i64 }   -- int64
theorem fits2 : TyFits Tryz.prog 2 ty2 := fits_of ((.int .i64 0)) (by kernel_rfl) (by kernel_rfl) (by kernel_rfl) (by kernel_rfl) Tryz.underlying2 (by kernel_rfl) (rfl)
@[reducible] def ty3 : Ty := { size := 1, bytes := 8, agg := false, zero := [.lit (.int .i64 0)], desc := .int .i64 }   -- int
theorem fits3 : TyFits Tryz.prog 3 ty3 := fits_of ((.int .i64 0)) (by kernel_rfl) (by kernel_rfl) (by kernel_rfl) (by kernel_rfl) Tryz.underlying3 (by kernel_rfl) (rfl)
@[reducible] def ty4 : Ty := { size := 1, bytes := 1, agg := false, zero := [.lit (.bool false)], desc := .bool }   -- bool
theorem fits4 : TyFits Tryz.prog 4 ty4 := fits_of ((.bool false)) (by kernel_rfl) (by kernel_rfl) (by kernel_rfl) (by kernel_rfl) Tryz.underlying4 (by kernel_rfl) (rfl)
@[reducible] def ty5 : Ty := { size := 1, bytes := 1, agg := false, zero := [.lit (.int .u8 0)], desc := .int .u8 }   -- uint8
theorem fits5 : TyFits Tryz.prog 5 ty5 := fits_of ((.int .u8 0)) (by kernel_rfl) (by kernel_rfl) (by kernel_rfl) (by kernel_rfl) Tryz.underlying5 (by kernel_rfl) (rfl)
@[reducible] def ty9 : Ty := { size := 1, bytes := 16, agg := false, zero := [.lit (.string ⟨#[]⟩)], desc := .str }   -- string
theorem fits9 : TyFits Tryz.prog 9 ty9 := fits_of ((.string ⟨#[]⟩)) (by kernel_rfl) (by kernel_rfl) (by kernel_rfl) (by kernel_rfl) Tryz.underlying9 (by kernel_rfl) (rfl)
@[reducible] def ty22 : Ty := { size := 1, bytes := 24, agg := false, zero := [.slc 0 0 []], desc := .slc 5 }   -- []uint8
theorem fits22 : TyFits Tryz.prog 22 ty22 := fits_of ((.slice none 0 0)) (by kernel_rfl) (by kernel_rfl) (by kernel_rfl) (by kernel_rfl) Tryz.underlying22 (by kernel_rfl) (rfl)
@[reducible] def ty23 : Ty := { size := 1, bytes := 24, agg := false, zero := [.slc 0 0 []], desc := .slc 3 }   -- []int
theorem fits23 : TyFits Tryz.prog 23 ty23 := fits_of ((.slice none 0 0)) (by kernel_rfl) (by kernel_rfl) (by kernel_rfl) (by kernel_rfl) Tryz.underlying23 (by kernel_rfl) (rfl)
@[reducible] def ty24 : Ty := { size := 1, bytes := 24, agg := false, zero := [.slc 0 0 []], desc := .slc 70 }   -- []api.Fun
theorem fits24 : TyFits Tryz.prog 24 ty24 := fits_of ((.slice none 0 0)) (by kernel_rfl) (by kernel_rfl) (by kernel_rfl) (by kernel_rfl) Tryz.underlying24 (by kernel_rfl) (rfl)
@[reducible] def ty25 : Ty := { size := 1, bytes := 24, agg := false, zero := [.slc 0 0 []], desc := .slc 30 }   -- []scope.Fun
theorem fits25 : TyFits Tryz.prog 25 ty25 := fits_of ((.slice none 0 0)) (by kernel_rfl) (by kernel_rfl) (by kernel_rfl) (by kernel_rfl) Tryz.underlying25 (by kernel_rfl) (rfl)
@[reducible] def ty26 : Ty := { size := 1, bytes := 8, agg := false, zero := [.lit (.int .i64 0)], desc := .int .i64 }   -- api.Errno
theorem fits26 : TyFits Tryz.prog 26 ty26 := fits_of ((.int .i64 0)) (by kernel_rfl) (by kernel_rfl) (by kernel_rfl) (by kernel_rfl) Tryz.underlying26 (by kernel_rfl) (rfl)
@[reducible] def ty30 : Ty := { size := 3, bytes := 56, agg := true, zero := [.lit (.int .i64 0), .slc 0 0 [], .slc 0 0 []], desc := .struct [(0, 3), (1, 23), (2, 23)] }   -- scope.Fun
theorem fits30 : TyFits Tryz.prog 30 ty30 := fits_of (.agg #[(.int .i64 0), (.slice none 0 0), (.slice none 0 0)]) (by kernel_rfl) (by kernel_rfl) (by kernel_rfl) (by kernel_rfl) Tryz.underlying30 (by kernel_rfl) (⟨_, rfl, by kernel_rfl⟩)
@[reducible] def ty34 : Ty := { size := 1, bytes := 24, agg := false, zero := [.slc 0 0 []], desc := .slc 9 }   -- []string
theorem fits34 : TyFits Tryz.prog 34 ty34 := fits_of ((.slice none 0 0)) (by kernel_rfl) (by kernel_rfl) (by kernel_rfl) (by kernel_rfl) Tryz.underlying34 (by kernel_rfl) (rfl)
@[reducible] def ty39 : Ty := { size := 1, bytes := 24, agg := false, zero := [.slc 0 0 []], desc := .slc 41 }   -- []api.Node
theorem fits39 : TyFits Tryz.prog 39 ty39 := fits_of ((.slice none 0 0)) (by kernel_rfl) (by kernel_rfl) (by kernel_rfl) (by kernel_rfl) Tryz.underlying39 (by kernel_rfl) (rfl)
@[reducible] def ty41 : Ty := { size := 5, bytes := 64, agg := true, zero := [.lit (.int .i64 0), .lit (.int .i64 0), .lit (.string ⟨#[]⟩), .lit (.int .i64 0), .slc 0 0 []], desc := .struct [(0, 3), (1, 3), (2, 9), (3, 2), (4, 39)] }   -- api.Node
theorem fits41 : TyFits Tryz.prog 41 ty41 := fits_of (.agg #[(.int .i64 0), (.int .i64 0), (.string ⟨#[]⟩), (.int .i64 0), (.slice none 0 0)]) (by kernel_rfl) (by kernel_rfl) (by kernel_rfl) (by kernel_rfl) Tryz.underlying41 (by kernel_rfl) (⟨_, rfl, by kernel_rfl⟩)
@[reducible] def ty47 : Ty := { size := 1, bytes := 8, agg := false, zero := [.lit .nilFunc], desc := .other }   -- func(api.Node, api.Node) bool
theorem fits47 : TyFits Tryz.prog 47 ty47 := fits_of (.nilFunc) (by kernel_rfl) (by kernel_rfl) (by kernel_rfl) (by kernel_rfl) Tryz.underlying47 (by kernel_rfl) (trivial)
@[reducible] def ty48 : Ty := { size := 1, bytes := 24, agg := false, zero := [.slc 0 0 []], desc := .slc 56 }   -- []api.SFn
theorem fits48 : TyFits Tryz.prog 48 ty48 := fits_of ((.slice none 0 0)) (by kernel_rfl) (by kernel_rfl) (by kernel_rfl) (by kernel_rfl) Tryz.underlying48 (by kernel_rfl) (rfl)
@[reducible] def ty50 : Ty := { size := 2, bytes := 32, agg := true, zero := [.slc 0 0 [], .lit (.int .i64 0)], desc := .struct [(0, 48), (1, 3)] }   -- api.Prog
theorem fits50 : TyFits Tryz.prog 50 ty50 := fits_of (.agg #[(.slice none 0 0), (.int .i64 0)]) (by kernel_rfl) (by kernel_rfl) (by kernel_rfl) (by kernel_rfl) Tryz.underlying50 (by kernel_rfl) (⟨_, rfl, by kernel_rfl⟩)
@[reducible] def ty53 : Ty := { size := 1, bytes := 24, agg := false, zero := [.slc 0 0 []], desc := .slc 149 }   -- []api.Value
theorem fits53 : TyFits Tryz.prog 53 ty53 := fits_of ((.slice none 0 0)) (by kernel_rfl) (by kernel_rfl) (by kernel_rfl) (by kernel_rfl) Tryz.underlying53 (by kernel_rfl) (rfl)
@[reducible] def ty54 : Ty := { size := 1, bytes := 24, agg := false, zero := [.slc 0 0 []], desc := .slc 58 }   -- []api.SIns
theorem fits54 : TyFits Tryz.prog 54 ty54 := fits_of ((.slice none 0 0)) (by kernel_rfl) (by kernel_rfl) (by kernel_rfl) (by kernel_rfl) Tryz.underlying54 (by kernel_rfl) (rfl)
@[reducible] def ty56 : Ty := { size := 5, bytes := 80, agg := true, zero := [.lit (.string ⟨#[]⟩), .lit (.int .i64 0), .lit (.int .i64 0), .slc 0 0 [], .slc 0 0 []], desc := .struct [(0, 9), (1, 3), (2, 3), (3, 53), (4, 54)] }   -- api.SFn
theorem fits56 : TyFits Tryz.prog 56 ty56 := fits_of (.agg #[(.string ⟨#[]⟩), (.int .i64 0), (.int .i64 0), (.slice none 0 0), (.slice none 0 0)]) (by kernel_rfl) (by kernel_rfl) (by kernel_rfl) (by kernel_rfl) Tryz.underlying56 (by kernel_rfl) (⟨_, rfl, by kernel_rfl⟩)
@[reducible] def ty58 : Ty := { size := 3, bytes := 24, agg := true, zero := [.lit (.int .i64 0), .lit (.int .i64 0), .lit (.int .i64 0)], desc := .struct [(0, 3), (1, 3), (2, 3)] }   -- api.SIns
theorem fits58 : TyFits Tryz.prog 58 ty58 := fits_of (.agg #[(.int .i64 0), (.int .i64 0), (.int .i64 0)]) (by kernel_rfl) (by kernel_rfl) (by kernel_rfl) (by kernel_rfl) Tryz.underlying58 (by kernel_rfl) (⟨_, rfl, by kernel_rfl⟩)
@[reducible] def ty63 : Ty := { size := 8, bytes := 104, agg := true, zero := [.slc 0 0 [], .lit (.int .i64 0), .lit (.int .i64 0), .lit (.string ⟨#[]⟩), .lit (.int .i64 0), .slc 0 0 [], .lit (.int .i64 0), .lit (.int .i64 0)], desc := .struct [(0, 24), (1, 41), (6, 3), (7, 3)] }   -- ratlineref4.Told
theorem fits63 : TyFits Tryz.prog 63 ty63 := fits_of (.agg #[(.slice none 0 0), (.int .i64 0), (.int .i64 0), (.string ⟨#[]⟩), (.int .i64 0), (.slice none 0 0), (.int .i64 0), (.int .i64 0)]) (by kernel_rfl) (by kernel_rfl) (by kernel_rfl) (by kernel_rfl) Tryz.underlying63 (by kernel_rfl) (⟨_, rfl, by kernel_rfl⟩)
@[reducible] def ty70 : Ty := { size := 7, bytes := 104, agg := true, zero := [.lit (.string ⟨#[]⟩), .slc 0 0 [], .lit (.int .i64 0), .lit (.int .i64 0), .lit (.string ⟨#[]⟩), .lit (.int .i64 0), .slc 0 0 []], desc := .struct [(0, 9), (1, 34), (2, 41)] }   -- api.Fun
theorem fits70 : TyFits Tryz.prog 70 ty70 := fits_of (.agg #[(.string ⟨#[]⟩), (.slice none 0 0), (.int .i64 0), (.int .i64 0), (.string ⟨#[]⟩), (.int .i64 0), (.slice none 0 0)]) (by kernel_rfl) (by kernel_rfl) (by kernel_rfl) (by kernel_rfl) Tryz.underlying70 (by kernel_rfl) (⟨_, rfl, by kernel_rfl⟩)
@[reducible] def ty76 : Ty := { size := 1, bytes := 8, agg := false, zero := [.lit (.pointer none)], desc := .other }   -- *int
theorem fits76 : TyFits Tryz.prog 76 ty76 := fits_of ((.pointer none)) (by kernel_rfl) (by kernel_rfl) (by kernel_rfl) (by kernel_rfl) Tryz.underlying76 (by kernel_rfl) (trivial)
@[reducible] def ty78 : Ty := { size := 1, bytes := 8, agg := false, zero := [.lit (.pointer none)], desc := .other }   -- *parse.printer
theorem fits78 : TyFits Tryz.prog 78 ty78 := fits_of ((.pointer none)) (by kernel_rfl) (by kernel_rfl) (by kernel_rfl) (by kernel_rfl) Tryz.underlying78 (by kernel_rfl) (trivial)
@[reducible] def ty80 : Ty := { size := 1, bytes := 24, agg := true, zero := [.slc 0 0 []], desc := .struct [(0, 34)] }   -- parse.printer
theorem fits80 : TyFits Tryz.prog 80 ty80 := fits_of (.agg #[(.slice none 0 0)]) (by kernel_rfl) (by kernel_rfl) (by kernel_rfl) (by kernel_rfl) Tryz.underlying80 (by kernel_rfl) (⟨_, rfl, by kernel_rfl⟩)
@[reducible] def ty84 : Ty := { size := 1, bytes := 8, agg := false, zero := [.lit (.pointer none)], desc := .other }   -- *parse.parser
theorem fits84 : TyFits Tryz.prog 84 ty84 := fits_of ((.pointer none)) (by kernel_rfl) (by kernel_rfl) (by kernel_rfl) (by kernel_rfl) Tryz.underlying84 (by kernel_rfl) (trivial)
@[reducible] def ty87 : Ty := { size := 1, bytes := 24, agg := false, zero := [.slc 0 0 []], desc := .slc 138 }   -- []lex.Token
theorem fits87 : TyFits Tryz.prog 87 ty87 := fits_of ((.slice none 0 0)) (by kernel_rfl) (by kernel_rfl) (by kernel_rfl) (by kernel_rfl) Tryz.underlying87 (by kernel_rfl) (rfl)
@[reducible] def ty89 : Ty := { size := 6, bytes := 64, agg := true, zero := [.slc 0 0 [], .lit (.int .i64 0), .lit (.int .i64 0), .lit (.int .i64 0), .lit (.int .i64 0), .lit (.int .i64 0)], desc := .struct [(0, 87), (1, 3), (2, 3), (3, 3), (4, 3), (5, 26)] }   -- parse.parser
theorem fits89 : TyFits Tryz.prog 89 ty89 := fits_of (.agg #[(.slice none 0 0), (.int .i64 0), (.int .i64 0), (.int .i64 0), (.int .i64 0), (.int .i64 0)]) (by kernel_rfl) (by kernel_rfl) (by kernel_rfl) (by kernel_rfl) Tryz.underlying89 (by kernel_rfl) (⟨_, rfl, by kernel_rfl⟩)
@[reducible] def ty96 : Ty := { size := 1, bytes := 24, agg := false, zero := [.slc 0 0 []], desc := .slc 158 }   -- []ratlineref4.Token
theorem fits96 : TyFits Tryz.prog 96 ty96 := fits_of ((.slice none 0 0)) (by kernel_rfl) (by kernel_rfl) (by kernel_rfl) (by kernel_rfl) Tryz.underlying96 (by kernel_rfl) (rfl)
@[reducible] def ty98 : Ty := { size := 3, bytes := 40, agg := true, zero := [.slc 0 0 [], .lit (.int .i64 0), .lit (.int .i64 0)], desc := .struct [(0, 96), (1, 3), (2, 3)] }   -- ratlineref4.Lexed
theorem fits98 : TyFits Tryz.prog 98 ty98 := fits_of (.agg #[(.slice none 0 0), (.int .i64 0), (.int .i64 0)]) (by kernel_rfl) (by kernel_rfl) (by kernel_rfl) (by kernel_rfl) Tryz.underlying98 (by kernel_rfl) (⟨_, rfl, by kernel_rfl⟩)
@[reducible] def ty100 : Ty := { size := 1, bytes := 8, agg := false, zero := [.lit (.pointer none)], desc := .other }   -- *ratlineref4.Parser
theorem fits100 : TyFits Tryz.prog 100 ty100 := fits_of ((.pointer none)) (by kernel_rfl) (by kernel_rfl) (by kernel_rfl) (by kernel_rfl) Tryz.underlying100 (by kernel_rfl) (trivial)
@[reducible] def ty102 : Ty := { size := 7, bytes := 72, agg := true, zero := [.slc 0 0 [], .lit (.int .i64 0), .lit (.int .i64 0), .lit (.int .i64 0), .lit (.int .i64 0), .lit (.int .i64 0), .lit (.int .i64 0)], desc := .struct [(0, 96), (1, 3), (2, 3), (3, 3), (4, 3), (5, 3), (6, 3)] }   -- ratlineref4.Parser
theorem fits102 : TyFits Tryz.prog 102 ty102 := fits_of (.agg #[(.slice none 0 0), (.int .i64 0), (.int .i64 0), (.int .i64 0), (.int .i64 0), (.int .i64 0), (.int .i64 0)]) (by kernel_rfl) (by kernel_rfl) (by kernel_rfl) (by kernel_rfl) Tryz.underlying102 (by kernel_rfl) (⟨_, rfl, by kernel_rfl⟩)
@[reducible] def ty108 : Ty := { size := 1, bytes := 8, agg := false, zero := [.lit .nilFunc], desc := .other }   -- func(api.Fun, api.Fun) bool
theorem fits108 : TyFits Tryz.prog 108 ty108 := fits_of (.nilFunc) (by kernel_rfl) (by kernel_rfl) (by kernel_rfl) (by kernel_rfl) Tryz.underlying108 (by kernel_rfl) (trivial)
@[reducible] def ty110 : Ty := { size := 1, bytes := 8, agg := false, zero := [.lit (.map none)], desc := .map 9 3 }   -- map[string]int
theorem fits110 : TyFits Tryz.prog 110 ty110 := fits_of ((.map none)) (by kernel_rfl) (by kernel_rfl) (by kernel_rfl) (by kernel_rfl) Tryz.underlying110 (by kernel_rfl) (rfl)
@[reducible] def ty112 : Ty := { size := 1, bytes := 8, agg := false, zero := [.lit (.pointer none)], desc := .other }   -- *scope.checker
theorem fits112 : TyFits Tryz.prog 112 ty112 := fits_of ((.pointer none)) (by kernel_rfl) (by kernel_rfl) (by kernel_rfl) (by kernel_rfl) Tryz.underlying112 (by kernel_rfl) (trivial)
@[reducible] def ty113 : Ty := { size := 1, bytes := 24, agg := false, zero := [.slc 0 0 []], desc := .slc 164 }   -- []scope.known
theorem fits113 : TyFits Tryz.prog 113 ty113 := fits_of ((.slice none 0 0)) (by kernel_rfl) (by kernel_rfl) (by kernel_rfl) (by kernel_rfl) Tryz.underlying113 (by kernel_rfl) (rfl)
@[reducible] def ty115 : Ty := { size := 8, bytes := 128, agg := true, zero := [.lit (.map none), .slc 0 0 [], .slc 0 0 [], .lit (.int .i64 0), .lit (.int .i64 0), .slc 0 0 [], .slc 0 0 [], .lit (.int .i64 0)], desc := .struct [(0, 110), (1, 24), (2, 113), (3, 3), (4, 30), (7, 26)] }   -- scope.checker
theorem fits115 : TyFits Tryz.prog 115 ty115 := fits_of (.agg #[(.map none), (.slice none 0 0), (.slice none 0 0), (.int .i64 0), (.int .i64 0), (.slice none 0 0), (.slice none 0 0), (.int .i64 0)]) (by kernel_rfl) (by kernel_rfl) (by kernel_rfl) (by kernel_rfl) Tryz.underlying115 (by kernel_rfl) (⟨_, rfl, by kernel_rfl⟩)
@[reducible] def ty119 : Ty := { size := 1, bytes := 8, agg := false, zero := [.lit (.pointer none)], desc := .other }   -- *strings.Builder
theorem fits119 : TyFits Tryz.prog 119 ty119 := fits_of ((.pointer none)) (by kernel_rfl) (by kernel_rfl) (by kernel_rfl) (by kernel_rfl) Tryz.underlying119 (by kernel_rfl) (trivial)
@[reducible] def ty121 : Ty := { size := 2, bytes := 32, agg := true, zero := [.lit (.pointer none), .slc 0 0 []], desc := .struct [(0, 119), (1, 22)] }   -- strings.Builder
theorem fits121 : TyFits Tryz.prog 121 ty121 := fits_of (.agg #[(.pointer none), (.slice none 0 0)]) (by kernel_rfl) (by kernel_rfl) (by kernel_rfl) (by kernel_rfl) Tryz.underlying121 (by kernel_rfl) (⟨_, rfl, by kernel_rfl⟩)
@[reducible] def ty124 : Ty := { size := 1, bytes := 16, agg := false, zero := [.lit .nilIface], desc := .other }   -- error
theorem fits124 : TyFits Tryz.prog 124 ty124 := fits_of (.nilIface) (by kernel_rfl) (by kernel_rfl) (by kernel_rfl) (by kernel_rfl) Tryz.underlying124 (by kernel_rfl) (trivial)
@[reducible] def ty138 : Ty := { size := 4, bytes := 40, agg := true, zero := [.lit (.int .i64 0), .lit (.string ⟨#[]⟩), .lit (.int .i64 0), .lit (.int .i64 0)], desc := .struct [(0, 3), (1, 9), (2, 2), (3, 3)] }   -- lex.Token
theorem fits138 : TyFits Tryz.prog 138 ty138 := fits_of (.agg #[(.int .i64 0), (.string ⟨#[]⟩), (.int .i64 0), (.int .i64 0)]) (by kernel_rfl) (by kernel_rfl) (by kernel_rfl) (by kernel_rfl) Tryz.underlying138 (by kernel_rfl) (⟨_, rfl, by kernel_rfl⟩)
@[reducible] def ty139 : Ty := { size := 1, bytes := 8, agg := false, zero := [.lit (.pointer none)], desc := .other }   -- *gen.maker
theorem fits139 : TyFits Tryz.prog 139 ty139 := fits_of ((.pointer none)) (by kernel_rfl) (by kernel_rfl) (by kernel_rfl) (by kernel_rfl) Tryz.underlying139 (by kernel_rfl) (trivial)
@[reducible] def ty141 : Ty := { size := 2, bytes := 16, agg := true, zero := [.lit (.int .i64 0), .lit (.bool false)], desc := .struct [(0, 3), (1, 4)] }   -- gen.maker
theorem fits141 : TyFits Tryz.prog 141 ty141 := fits_of (.agg #[(.int .i64 0), (.bool false)]) (by kernel_rfl) (by kernel_rfl) (by kernel_rfl) (by kernel_rfl) Tryz.underlying141 (by kernel_rfl) (⟨_, rfl, by kernel_rfl⟩)
@[reducible] def ty142 : Ty := { size := 1, bytes := 8, agg := false, zero := [.lit (.pointer none)], desc := .other }   -- *gen.fun
theorem fits142 : TyFits Tryz.prog 142 ty142 := fits_of ((.pointer none)) (by kernel_rfl) (by kernel_rfl) (by kernel_rfl) (by kernel_rfl) Tryz.underlying142 (by kernel_rfl) (trivial)
@[reducible] def ty143 : Ty := { size := 1, bytes := 24, agg := false, zero := [.slc 0 0 []], desc := .slc 1 }   -- []func()
theorem fits143 : TyFits Tryz.prog 143 ty143 := fits_of ((.slice none 0 0)) (by kernel_rfl) (by kernel_rfl) (by kernel_rfl) (by kernel_rfl) Tryz.underlying143 (by kernel_rfl) (rfl)
@[reducible] def ty145 : Ty := { size := 11, bytes := 192, agg := true, zero := [.lit (.pointer none), .lit (.string ⟨#[]⟩), .lit (.int .i64 0), .lit (.int .i64 0), .slc 0 0 [], .slc 0 0 [], .lit (.int .i64 0), .slc 0 0 [], .slc 0 0 [], .slc 0 0 [], .slc 0 0 []], desc := .struct [(0, 139), (1, 56), (6, 30), (9, 143), (10, 143)] }   -- gen.fun
theorem fits145 : TyFits Tryz.prog 145 ty145 := fits_of (.agg #[(.pointer none), (.string ⟨#[]⟩), (.int .i64 0), (.int .i64 0), (.slice none 0 0), (.slice none 0 0), (.int .i64 0), (.slice none 0 0), (.slice none 0 0), (.slice none 0 0), (.slice none 0 0)]) (by kernel_rfl) (by kernel_rfl) (by kernel_rfl) (by kernel_rfl) Tryz.underlying145 (by kernel_rfl) (⟨_, rfl, by kernel_rfl⟩)
@[reducible] def ty147 : Ty := { size := 1, bytes := 16, agg := false, zero := [.lit (.complex .f64 0 0)], desc := .other }   -- complex128
theorem fits147 : TyFits Tryz.prog 147 ty147 := fits_of ((.complex .f64 0 0)) (by kernel_rfl) (by kernel_rfl) (by kernel_rfl) (by kernel_rfl) Tryz.underlying147 (by kernel_rfl) (trivial)
@[reducible] def ty149 : Ty := { size := 5, bytes := 72, agg := true, zero := [.lit (.int .i64 0), .lit (.int .i64 0), .lit (.complex .f64 0 0), .lit (.string ⟨#[]⟩), .slc 0 0 []], desc := .struct [(0, 3), (1, 2), (2, 147), (3, 9), (4, 53)] }   -- api.Value
theorem fits149 : TyFits Tryz.prog 149 ty149 := fits_of (.agg #[(.int .i64 0), (.int .i64 0), (.complex .f64 0 0), (.string ⟨#[]⟩), (.slice none 0 0)]) (by kernel_rfl) (by kernel_rfl) (by kernel_rfl) (by kernel_rfl) Tryz.underlying149 (by kernel_rfl) (⟨_, rfl, by kernel_rfl⟩)
@[reducible] def ty155 : Ty := { size := 1, bytes := 8, agg := false, zero := [.lit .nilFunc], desc := .other }   -- func(uint8) bool
theorem fits155 : TyFits Tryz.prog 155 ty155 := fits_of (.nilFunc) (by kernel_rfl) (by kernel_rfl) (by kernel_rfl) (by kernel_rfl) Tryz.underlying155 (by kernel_rfl) (trivial)
@[reducible] def ty158 : Ty := { size := 4, bytes := 40, agg := true, zero := [.lit (.int .i64 0), .lit (.string ⟨#[]⟩), .lit (.int .i64 0), .lit (.int .i64 0)], desc := .struct [(0, 3), (1, 9), (2, 2), (3, 3)] }   -- ratlineref4.Token
theorem fits158 : TyFits Tryz.prog 158 ty158 := fits_of (.agg #[(.int .i64 0), (.string ⟨#[]⟩), (.int .i64 0), (.int .i64 0)]) (by kernel_rfl) (by kernel_rfl) (by kernel_rfl) (by kernel_rfl) Tryz.underlying158 (by kernel_rfl) (⟨_, rfl, by kernel_rfl⟩)
@[reducible] def ty164 : Ty := { size := 2, bytes := 24, agg := true, zero := [.lit (.string ⟨#[]⟩), .lit (.int .i64 0)], desc := .struct [(0, 9), (1, 3)] }   -- scope.known
theorem fits164 : TyFits Tryz.prog 164 ty164 := fits_of (.agg #[(.string ⟨#[]⟩), (.int .i64 0)]) (by kernel_rfl) (by kernel_rfl) (by kernel_rfl) (by kernel_rfl) Tryz.underlying164 (by kernel_rfl) (⟨_, rfl, by kernel_rfl⟩)
@[reducible] def ty179 : Ty := { size := 1, bytes := 8, agg := false, zero := [.lit .nilFunc], desc := .other }   -- func(api.Value) bool
theorem fits179 : TyFits Tryz.prog 179 ty179 := fits_of (.nilFunc) (by kernel_rfl) (by kernel_rfl) (by kernel_rfl) (by kernel_rfl) Tryz.underlying179 (by kernel_rfl) (trivial)
@[reducible] def ty186 : Ty := { size := 1, bytes := 8, agg := false, zero := [.lit .nilFunc], desc := .other }   -- func(api.SIns) bool
theorem fits186 : TyFits Tryz.prog 186 ty186 := fits_of (.nilFunc) (by kernel_rfl) (by kernel_rfl) (by kernel_rfl) (by kernel_rfl) Tryz.underlying186 (by kernel_rfl) (trivial)
@[reducible] def ty188 : Ty := { size := 1, bytes := 24, agg := false, zero := [.slc 0 0 []], desc := .slc 23 }   -- [][]int
theorem fits188 : TyFits Tryz.prog 188 ty188 := fits_of ((.slice none 0 0)) (by kernel_rfl) (by kernel_rfl) (by kernel_rfl) (by kernel_rfl) Tryz.underlying188 (by kernel_rfl) (rfl)
@[reducible] def ty189 : Ty := { size := 1, bytes := 24, agg := false, zero := [.slc 0 0 []], desc := .slc 4 }   -- []bool
theorem fits189 : TyFits Tryz.prog 189 ty189 := fits_of ((.slice none 0 0)) (by kernel_rfl) (by kernel_rfl) (by kernel_rfl) (by kernel_rfl) Tryz.underlying189 (by kernel_rfl) (rfl)
@[reducible] def ty194 : Ty := { size := 1, bytes := 24, agg := false, zero := [.slc 0 0 []], desc := .slc 197 }   -- []parse.binary
theorem fits194 : TyFits Tryz.prog 194 ty194 := fits_of ((.slice none 0 0)) (by kernel_rfl) (by kernel_rfl) (by kernel_rfl) (by kernel_rfl) Tryz.underlying194 (by kernel_rfl) (rfl)
@[reducible] def ty197 : Ty := { size := 2, bytes := 24, agg := true, zero := [.lit (.string ⟨#[]⟩), .lit (.int .i64 0)], desc := .struct [(0, 9), (1, 3)] }   -- parse.binary
theorem fits197 : TyFits Tryz.prog 197 ty197 := fits_of (.agg #[(.string ⟨#[]⟩), (.int .i64 0)]) (by kernel_rfl) (by kernel_rfl) (by kernel_rfl) (by kernel_rfl) Tryz.underlying197 (by kernel_rfl) (⟨_, rfl, by kernel_rfl⟩)
@[reducible] def ty200 : Ty := { size := 1, bytes := 8, agg := false, zero := [.lit (.pointer none)], desc := .other }   -- *strings.Replacer
theorem fits200 : TyFits Tryz.prog 200 ty200 := fits_of ((.pointer none)) (by kernel_rfl) (by kernel_rfl) (by kernel_rfl) (by kernel_rfl) Tryz.underlying200 (by kernel_rfl) (trivial)
@[reducible] def ty216 : Ty := { size := 1, bytes := 8, agg := false, zero := [.lit (.int .u64 0)], desc := .int .u64 }   -- uint64
theorem fits216 : TyFits Tryz.prog 216 ty216 := fits_of ((.int .u64 0)) (by kernel_rfl) (by kernel_rfl) (by kernel_rfl) (by kernel_rfl) Tryz.underlying216 (by kernel_rfl) (rfl)
@[reducible] def ty242 : Ty := { size := 6, bytes := 96, agg := true, zero := [.lit (.string ⟨#[]⟩), .lit (.string ⟨#[]⟩), .lit (.string ⟨#[]⟩), .lit (.string ⟨#[]⟩), .lit (.string ⟨#[]⟩), .lit (.string ⟨#[]⟩)], desc := .other }   -- [6]string
theorem fits242 : TyFits Tryz.prog 242 ty242 := fits_of (.agg #[(.string ⟨#[]⟩), (.string ⟨#[]⟩), (.string ⟨#[]⟩), (.string ⟨#[]⟩), (.string ⟨#[]⟩), (.string ⟨#[]⟩)]) (by kernel_rfl) (by kernel_rfl) (by kernel_rfl) (by kernel_rfl) Tryz.underlying242 (by kernel_rfl) (trivial)
@[reducible] def ty245 : Ty := { size := 1, bytes := 8, agg := false, zero := [.lit (.float .f64 0)], desc := .other }   -- float64
theorem fits245 : TyFits Tryz.prog 245 ty245 := fits_of ((.float .f64 0)) (by kernel_rfl) (by kernel_rfl) (by kernel_rfl) (by kernel_rfl) Tryz.underlying245 (by kernel_rfl) (trivial)
def tyT : Nat → Option Ty
  | 1 => some ty1
  | 2 => some ty2
  | 3 => some ty3
  | 4 => some ty4
  | 5 => some ty5
  | 9 => some ty9
  | 22 => some ty22
  | 23 => some ty23
  | 24 => some ty24
  | 25 => some ty25
  | 26 => some ty26
  | 30 => some ty30
  | 34 => some ty34
  | 39 => some ty39
  | 41 => some ty41
  | 47 => some ty47
  | 48 => some ty48
  | 50 => some ty50
  | 53 => some ty53
  | 54 => some ty54
  | 56 => some ty56
  | 58 => some ty58
  | 63 => some ty63
  | 70 => some ty70
  | 76 => some ty76
  | 78 => some ty78
  | 80 => some ty80
  | 84 => some ty84
  | 87 => some ty87
  | 89 => some ty89
  | 96 => some ty96
  | 98 => some ty98
  | 100 => some ty100
  | 102 => some ty102
  | 108 => some ty108
  | 110 => some ty110
  | 112 => some ty112
  | 113 => some ty113
  | 115 => some ty115
  | 119 => some ty119
  | 121 => some ty121
  | 124 => some ty124
  | 138 => some ty138
  | 139 => some ty139
  | 141 => some ty141
  | 142 => some ty142
  | 143 => some ty143
  | 145 => some ty145
  | 147 => some ty147
  | 149 => some ty149
  | 155 => some ty155
  | 158 => some ty158
  | 164 => some ty164
  | 179 => some ty179
  | 186 => some ty186
  | 188 => some ty188
  | 189 => some ty189
  | 194 => some ty194
  | 197 => some ty197
  | 200 => some ty200
  | 216 => some ty216
  | 242 => some ty242
  | 245 => some ty245
  | _ => none
theorem tyT_ok (t : TypeId) (ty : Ty) (h : tyT t = some ty) : TyFits Tryz.prog t ty := by
  unfold tyT at h
  split at h
  · obtain rfl := Option.some.inj h; exact fits1
  · obtain rfl := Option.some.inj h; exact fits2
  · obtain rfl := Option.some.inj h; exact fits3
  · obtain rfl := Option.some.inj h; exact fits4
  · obtain rfl := Option.some.inj h; exact fits5
  · obtain rfl := Option.some.inj h; exact fits9
  · obtain rfl := Option.some.inj h; exact fits22
  · obtain rfl := Option.some.inj h; exact fits23
  · obtain rfl := Option.some.inj h; exact fits24
  · obtain rfl := Option.some.inj h; exact fits25
  · obtain rfl := Option.some.inj h; exact fits26
  · obtain rfl := Option.some.inj h; exact fits30
  · obtain rfl := Option.some.inj h; exact fits34
  · obtain rfl := Option.some.inj h; exact fits39
  · obtain rfl := Option.some.inj h; exact fits41
  · obtain rfl := Option.some.inj h; exact fits47
  · obtain rfl := Option.some.inj h; exact fits48
  · obtain rfl := Option.some.inj h; exact fits50
  · obtain rfl := Option.some.inj h; exact fits53
  · obtain rfl := Option.some.inj h; exact fits54
  · obtain rfl := Option.some.inj h; exact fits56
  · obtain rfl := Option.some.inj h; exact fits58
  · obtain rfl := Option.some.inj h; exact fits63
  · obtain rfl := Option.some.inj h; exact fits70
  · obtain rfl := Option.some.inj h; exact fits76
  · obtain rfl := Option.some.inj h; exact fits78
  · obtain rfl := Option.some.inj h; exact fits80
  · obtain rfl := Option.some.inj h; exact fits84
  · obtain rfl := Option.some.inj h; exact fits87
  · obtain rfl := Option.some.inj h; exact fits89
  · obtain rfl := Option.some.inj h; exact fits96
  · obtain rfl := Option.some.inj h; exact fits98
  · obtain rfl := Option.some.inj h; exact fits100
  · obtain rfl := Option.some.inj h; exact fits102
  · obtain rfl := Option.some.inj h; exact fits108
  · obtain rfl := Option.some.inj h; exact fits110
  · obtain rfl := Option.some.inj h; exact fits112
  · obtain rfl := Option.some.inj h; exact fits113
  · obtain rfl := Option.some.inj h; exact fits115
  · obtain rfl := Option.some.inj h; exact fits119
  · obtain rfl := Option.some.inj h; exact fits121
  · obtain rfl := Option.some.inj h; exact fits124
  · obtain rfl := Option.some.inj h; exact fits138
  · obtain rfl := Option.some.inj h; exact fits139
  · obtain rfl := Option.some.inj h; exact fits141
  · obtain rfl := Option.some.inj h; exact fits142
  · obtain rfl := Option.some.inj h; exact fits143
  · obtain rfl := Option.some.inj h; exact fits145
  · obtain rfl := Option.some.inj h; exact fits147
  · obtain rfl := Option.some.inj h; exact fits149
  · obtain rfl := Option.some.inj h; exact fits155
  · obtain rfl := Option.some.inj h; exact fits158
  · obtain rfl := Option.some.inj h; exact fits164
  · obtain rfl := Option.some.inj h; exact fits179
  · obtain rfl := Option.some.inj h; exact fits186
  · obtain rfl := Option.some.inj h; exact fits188
  · obtain rfl := Option.some.inj h; exact fits189
  · obtain rfl := Option.some.inj h; exact fits194
  · obtain rfl := Option.some.inj h; exact fits197
  · obtain rfl := Option.some.inj h; exact fits200
  · obtain rfl := Option.some.inj h; exact fits216
  · obtain rfl := Option.some.inj h; exact fits242
  · obtain rfl := Option.some.inj h; exact fits245
  · cases h
theorem tyT1 : tyT 1 = some ty1 := rfl
theorem tyT2 : tyT 2 = some ty2 := rfl
theorem tyT3 : tyT 3 = some ty3 := rfl
theorem tyT4 : tyT 4 = some ty4 := rfl
theorem tyT5 : tyT 5 = some ty5 := rfl
theorem tyT9 : tyT 9 = some ty9 := rfl
theorem tyT22 : tyT 22 = some ty22 := rfl
theorem tyT23 : tyT 23 = some ty23 := rfl
theorem tyT24 : tyT 24 = some ty24 := rfl
theorem tyT25 : tyT 25 = some ty25 := rfl
theorem tyT26 : tyT 26 = some ty26 := rfl
theorem tyT30 : tyT 30 = some ty30 := rfl
theorem tyT34 : tyT 34 = some ty34 := rfl
theorem tyT39 : tyT 39 = some ty39 := rfl
theorem tyT41 : tyT 41 = some ty41 := rfl
theorem tyT47 : tyT 47 = some ty47 := rfl
theorem tyT48 : tyT 48 = some ty48 := rfl
theorem tyT50 : tyT 50 = some ty50 := rfl
theorem tyT53 : tyT 53 = some ty53 := rfl
theorem tyT54 : tyT 54 = some ty54 := rfl
theorem tyT56 : tyT 56 = some ty56 := rfl
theorem tyT58 : tyT 58 = some ty58 := rfl
theorem tyT63 : tyT 63 = some ty63 := rfl
theorem tyT70 : tyT 70 = some ty70 := rfl
theorem tyT76 : tyT 76 = some ty76 := rfl
theorem tyT78 : tyT 78 = some ty78 := rfl
theorem tyT80 : tyT 80 = some ty80 := rfl
theorem tyT84 : tyT 84 = some ty84 := rfl
theorem tyT87 : tyT 87 = some ty87 := rfl
theorem tyT89 : tyT 89 = some ty89 := rfl
theorem tyT96 : tyT 96 = some ty96 := rfl
theorem tyT98 : tyT 98 = some ty98 := rfl
theorem tyT100 : tyT 100 = some ty100 := rfl
theorem tyT102 : tyT 102 = some ty102 := rfl
theorem tyT108 : tyT 108 = some ty108 := rfl
theorem tyT110 : tyT 110 = some ty110 := rfl
theorem tyT112 : tyT 112 = some ty112 := rfl
theorem tyT113 : tyT 113 = some ty113 := rfl
theorem tyT115 : tyT 115 = some ty115 := rfl
theorem tyT119 : tyT 119 = some ty119 := rfl
theorem tyT121 : tyT 121 = some ty121 := rfl
theorem tyT124 : tyT 124 = some ty124 := rfl
theorem tyT138 : tyT 138 = some ty138 := rfl
theorem tyT139 : tyT 139 = some ty139 := rfl
theorem tyT141 : tyT 141 = some ty141 := rfl
theorem tyT142 : tyT 142 = some ty142 := rfl
theorem tyT143 : tyT 143 = some ty143 := rfl
theorem tyT145 : tyT 145 = some ty145 := rfl
theorem tyT147 : tyT 147 = some ty147 := rfl
theorem tyT149 : tyT 149 = some ty149 := rfl
theorem tyT155 : tyT 155 = some ty155 := rfl
theorem tyT158 : tyT 158 = some ty158 := rfl
theorem tyT164 : tyT 164 = some ty164 := rfl
theorem tyT179 : tyT 179 = some ty179 := rfl
theorem tyT186 : tyT 186 = some ty186 := rfl
theorem tyT188 : tyT 188 = some ty188 := rfl
theorem tyT189 : tyT 189 = some ty189 := rfl
theorem tyT194 : tyT 194 = some ty194 := rfl
theorem tyT197 : tyT 197 = some ty197 := rfl
theorem tyT200 : tyT 200 = some ty200 := rfl
theorem tyT216 : tyT 216 = some ty216 := rfl
theorem tyT242 : tyT 242 = some ty242 := rfl
theorem tyT245 : tyT 245 = some ty245 := rfl
theorem mixed : Tryz.prog.follows .mixedOrders = true := by kernel_rfl
end Go.Proofs.YtjofmihdeblbmaaGreatDoor.Xa

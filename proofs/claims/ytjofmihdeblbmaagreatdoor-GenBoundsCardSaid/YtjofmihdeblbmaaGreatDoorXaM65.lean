/- XA: stack: within, has, Arity, Pops, Pushes, Next. | XA: stack: form, good. | XA: stack: good. -/
import Derived.Test.YtjofmihdeblbmaaGreatDoorXaM60
namespace Go.Proofs.YtjofmihdeblbmaaGreatDoor.Xa
open Go Go.RowKit
set_option linter.unusedVariables false
set_option linter.unusedSimpArgs false
set_option maxRecDepth 100000
set_option maxHeartbeats 1000000
/-- a function's code, to be read alone -/
def CodeR (h : H) (v : V) (l : List Ins) : Prop := ∃ id r, v = .msl id 0 l.length 3 ∧ id < h.next ∧ h.arr id = some ⟨l.map insV ++ r, 3, 58⟩
theorem CodeR.fr {h h' : H} {v : V} {l : List Ins} (x : CodeR h v l) (f : Fr h h') : CodeR h' v l := by
  obtain ⟨id, r, h1, h3, h4⟩ := x
  exact ⟨id, r, h1, Nat.lt_of_lt_of_le h3 f.next, (f.arr id h3).trans h4⟩
def withinP (n m : Int) : Bool := leB 0 n && ltB n m
attribute [local simp] hid2 hid3 hid4 xcode_skip xcode_region xcode_draw xcode_loop xcode_seq xcode_cond xcode_block xcode_scope xcode_exit xcode_ret xops_nil xops_cons xd_nil xd_cons xstep_eq annot fillOf findFill findStore srcOf kcls cls qval qvalN xwant dstAt want1 xdo xop ev_const ev_global ev_func ev_zero ev_succ ev_undefs ev_hit ev_miss put_none put_len undefs_len xnil xfieldAddr fieldOf eT emtb seqQ blockQ xload xstore splice V.storable V.one V.cells mk xbinop xbin xun xbuiltin xindexAddr nilOr xindex xint cv cv1 retQ xres_tmp xres_cell xres_nil xresult xbuild xfill xbuildSlice xrows Nat.testBit places xfield item sideOk pendOk pendOf tyT1 tyT2 tyT3 tyT4 tyT5 tyT9 tyT22 tyT23 tyT24 tyT25 tyT26 tyT30 tyT34 tyT39 tyT41 tyT47 tyT48 tyT50 tyT53 tyT54 tyT56 tyT58 tyT63 tyT70 tyT76 tyT78 tyT80 tyT84 tyT87 tyT89 tyT96 tyT98 tyT100 tyT102 tyT108 tyT110 tyT112 tyT113 tyT115 tyT119 tyT121 tyT124 tyT138 tyT139 tyT141 tyT142 tyT143 tyT145 tyT147 tyT149 tyT155 tyT158 tyT164 tyT179 tyT186 tyT188 tyT189 tyT194 tyT197 tyT200 tyT216 tyT242 tyT245 H.put_get H.new_get H.row_obj H.grow_obj H.bump_obj H.newArr_obj H.putArr_obj H.moveArr_obj H.put_arr H.new_arr H.row_arr H.grow_arr H.bump_arr H.newArr_get H.putArr_get H.moveArr_get H.put_ext H.new_ext H.newArr_ext H.putArr_ext H.moveArr_ext H.bump_ext H.row_get H.grow_get H.new_next H.row_next H.bump_next H.put_next H.grow_next H.newArr_next H.putArr_next H.moveArr_next H.app_next H.app_obj H.app_arr H.app_get bne emT emM xapp_em xmakeSlice xslice xlookup xmapUpdate keyShape
theorem swithin_calls (h : H) (n m : Int) : XCalls e 81 [.lit (.int .i64 n), .lit (.int .i64 m)] h (fun v h' => v = .lit (.bool (withinP n m)) ∧ h' = h) := by
  refine XCalls.of Tryz.func81 rfl (by kernel_rfl) ?_
  rw [Tryz.ntmps81]
  unfold withinP
  cases h1 : leB 0 n
  · simp [-Int.natCast_add, isM, xappendM, rowsIn, h1]
  · cases h2 : ltB n m
    · simp [-Int.natCast_add, isM, xappendM, rowsIn, h1, h2]
    · simp [-Int.natCast_add, isM, xappendM, rowsIn, h1, h2]
def hasP (op : Int) : Bool × Bool × Bool :=
  if op == 4 || op == 10 || op == 11 then (false, false, true) else if op == 9 then (true, true, true) else (true, false, leB 1 op && leB op 13)
theorem has_calls (h : H) (op : Int) : XCalls e 186 [.lit (.int .i64 op)] h (fun v h' => v = .tup [.lit (.bool (hasP op).1), .lit (.bool (hasP op).2.1), .lit (.bool (hasP op).2.2)] ∧ h' = h) := by
  refine XCalls.of Tryz.func186 rfl (by kernel_rfl) ?_
  rw [Tryz.ntmps186]
  unfold hasP
  cases h4 : (op == 4)
  · cases h10 : (op == 10)
    · cases h11 : (op == 11)
      · cases h9 : (op == 9)
        · cases h1 : leB 1 op
          · simp [-Int.natCast_add, isM, xappendM, rowsIn, h4, h9, h10, h11, h1]
          · cases h13 : leB op 13
            · simp [-Int.natCast_add, isM, xappendM, rowsIn, h4, h9, h10, h11, h1, h13]
            · simp [-Int.natCast_add, isM, xappendM, rowsIn, h4, h9, h10, h11, h1, h13]
        · simp [-Int.natCast_add, isM, xappendM, rowsIn, h4, h9, h10, h11]
      · simp [-Int.natCast_add, isM, xappendM, rowsIn, h4, h10, h11]
    · simp [-Int.natCast_add, isM, xappendM, rowsIn, h4, h10]
  · simp [-Int.natCast_add, isM, xappendM, rowsIn, h4]
def arityP (op : Int) : Int := if leB 1 op && leB op 14 then 2 else if leB 15 op && leB op 20 then 1 else 0
theorem arity_calls (h : H) (op : Int) : XCalls e 187 [.lit (.int .i64 op)] h (fun v h' => v = .lit (.int .i64 (arityP op)) ∧ h' = h) := by
  refine XCalls.of Tryz.func187 rfl (by kernel_rfl) ?_
  rw [Tryz.ntmps187]
  unfold arityP
  cases h1 : leB 1 op
  · cases h2 : leB 15 op
    · simp [-Int.natCast_add, isM, xappendM, rowsIn, h1, h2]
    · cases h3 : leB op 20
      · simp [-Int.natCast_add, isM, xappendM, rowsIn, h1, h2, h3]
      · simp [-Int.natCast_add, isM, xappendM, rowsIn, h1, h2, h3]
  · cases h14 : leB op 14
    · cases h2 : leB 15 op
      · simp [-Int.natCast_add, isM, xappendM, rowsIn, h1, h14, h2]
      · cases h3 : leB op 20
        · simp [-Int.natCast_add, isM, xappendM, rowsIn, h1, h14, h2, h3]
        · simp [-Int.natCast_add, isM, xappendM, rowsIn, h1, h14, h2, h3]
    · simp [-Int.natCast_add, isM, xappendM, rowsIn, h1, h14]
def popsP (i : Ins) : Int :=
  if i.1 == 5 then 2 else if i.1 == 6 || i.1 == 3 || i.1 == 4 || i.1 == 8 || i.1 == 10 || i.1 == 11 then 1
  else if i.1 == 9 then (if ltB i.2.2 0 then 0 else i.2.2) else if i.1 == 13 then (if ltB i.2.1 0 then 0 else i.2.1) else 0
theorem max0 (a : Int) : (if a < 0 then 0 else a) = (if ltB a 0 then 0 else a) := by
  by_cases h : a < 0
  · rw [if_pos h, ltB_t h, if_pos rfl]
  · rw [if_neg h, ltB_f (by omega)]; simp
theorem pops_calls (h : H) (i : Ins) : XCalls e 45 [.agg (insV i)] h (fun v h' => v = .lit (.int .i64 (popsP i)) ∧ Fr h h') := by
  have hF : ∀ o, Fr h (h.new o) := fun o => Fr.new _ _
  unfold insV
  refine XCalls.of Tryz.func45 rfl (by kernel_rfl) ?_
  rw [Tryz.ntmps45]
  unfold popsP
  have m0 := max0
  cases h5 : (i.1 == 5)
  · cases h6 : (i.1 == 6)
    · cases h3 : (i.1 == 3)
      · cases h4 : (i.1 == 4)
        · cases h8 : (i.1 == 8)
          · cases h10 : (i.1 == 10)
            · cases h11 : (i.1 == 11)
              · cases h9 : (i.1 == 9)
                · cases h13 : (i.1 == 13)
                  · simp [-Int.natCast_add, isM, xappendM, rowsIn, h5, h6, h3, h4, h8, h10, h11, h9, h13, hF]
                  · simp [-Int.natCast_add, isM, xappendM, rowsIn, h5, h6, h3, h4, h8, h10, h11, h9, h13, hF, m0]
                · simp [-Int.natCast_add, isM, xappendM, rowsIn, h5, h6, h3, h4, h8, h10, h11, h9, hF, m0]
              · simp [-Int.natCast_add, isM, xappendM, rowsIn, h5, h6, h3, h4, h8, h10, h11, hF]
            · simp [-Int.natCast_add, isM, xappendM, rowsIn, h5, h6, h3, h4, h8, h10, hF]
          · simp [-Int.natCast_add, isM, xappendM, rowsIn, h5, h6, h3, h4, h8, hF]
        · simp [-Int.natCast_add, isM, xappendM, rowsIn, h5, h6, h3, h4, hF]
      · simp [-Int.natCast_add, isM, xappendM, rowsIn, h5, h6, h3, hF]
    · simp [-Int.natCast_add, isM, xappendM, rowsIn, h5, h6, hF]
  · simp [-Int.natCast_add, isM, xappendM, rowsIn, h5, hF]
def pushesP (i : Ins) : Int := if i.1 == 5 || i.1 == 6 || i.1 == 9 || i.1 == 13 || i.1 == 1 || i.1 == 2 then 1 else 0
theorem pushes_calls (h : H) (i : Ins) : XCalls e 46 [.agg (insV i)] h (fun v h' => v = .lit (.int .i64 (pushesP i)) ∧ Fr h h') := by
  have hF : ∀ o, Fr h (h.new o) := fun o => Fr.new _ _
  unfold insV
  refine XCalls.of Tryz.func46 rfl (by kernel_rfl) ?_
  rw [Tryz.ntmps46]
  unfold pushesP
  cases h5 : (i.1 == 5)
  · cases h6 : (i.1 == 6)
    · cases h3 : (i.1 == 9)
      · cases h4 : (i.1 == 13)
        · cases h8 : (i.1 == 1)
          · cases h10 : (i.1 == 2)
            · simp [-Int.natCast_add, isM, xappendM, rowsIn, h5, h6, h3, h4, h8, h10, hF]
            · simp [-Int.natCast_add, isM, xappendM, rowsIn, h5, h6, h3, h4, h8, h10, hF]
          · simp [-Int.natCast_add, isM, xappendM, rowsIn, h5, h6, h3, h4, h8, hF]
        · simp [-Int.natCast_add, isM, xappendM, rowsIn, h5, h6, h3, h4, hF]
      · simp [-Int.natCast_add, isM, xappendM, rowsIn, h5, h6, h3, hF]
    · simp [-Int.natCast_add, isM, xappendM, rowsIn, h5, h6, hF]
  · simp [-Int.natCast_add, isM, xappendM, rowsIn, h5, hF]
def minI (a b : Int) : Int := if b < a then b else a
def maxI (a b : Int) : Int := if b > a then b else a
def nextP (l : List Ins) (k : Nat) : List Int := match l[k]? with
  | none => []
  | some i => if i.1 == 7 then [i.2.1] else if i.1 == 8 then (if i.2.1 == ((k + 1 : Nat) : Int) then [i.2.1] else [minI i.2.1 ((k + 1 : Nat) : Int), maxI i.2.1 ((k + 1 : Nat) : Int)])
    else if i.1 == 10 then [] else [((k + 1 : Nat) : Int)]
/-- a row of ints that is read alone; one that is nil is empty -/
def IntR (v : V) (l : List Int) : Prop := ∃ id sz, v = .slc id sz (l.map intV) ∧ (l ≠ [] → sz = 1 ∧ id ≠ 0)
theorem next_calls (h : H) (v : V) (l : List Ins) (hl : l.length ≤ 100000) (hR : CodeR h v l) (k : Nat) (hk : k < l.length) : XCalls e 142 [v, .lit (.int .i64 (k : Nat))] h (fun v h' => IntR v (nextP l k) ∧ Fr h h') := by
  obtain ⟨id, r, rfl, hid, hr⟩ := hR
  have hn0 : h.next ≠ 0 := by omega
  refine XCalls.of Tryz.func142 rfl (by kernel_rfl) ?_
  rw [Tryz.ntmps142]
  have hk' : (k : Int) < (l.length : Int) := by omega
  have k0 : ltB (k : Int) 0 = false := ltB_f (by omega)
  have k1 : leB (l.length : Int) (k : Int) = false := leB_f (by omega)
  have hrow : (l.map insV ++ r)[k]? = some [.lit (.int .i64 l[k].1), .lit (.int .i64 l[k].2.1), .lit (.int .i64 l[k].2.2)] := by
    rw [List.getElem?_append_left (by simpa using hk), List.getElem?_map, List.getElem?_eq_getElem hk]
    rfl
  have hw : IntKind.i64.wrap ((k : Int) + 1) = ((k + 1 : Nat) : Int) := wrapS (a := k) (b := 1) (by omega)
  have hF : ∀ n, Fr h (h.row n) := fun n => Fr.row _ _
  unfold nextP
  rw [List.getElem?_eq_getElem hk]
  have fin : ∀ (x : List Int) (n : Nat), IntR (.slc h.next 1 (x.map intV)) x ∧ Fr h (h.row n) := fun x n => ⟨⟨_, _, rfl, fun _ => ⟨rfl, hn0⟩⟩, Fr.row _ _⟩
  cases h7 : (l[k].1 == 7)
  · cases h8 : (l[k].1 == 8)
    · cases h10 : (l[k].1 == 10)
      · simp [-Int.natCast_add, isM, xappendM, rowsIn, hr, hrow, hk, hk', k0, k1, hw, h7, h8, h10]
        exact fin [_] 1
      · simp [-Int.natCast_add, isM, xappendM, rowsIn, hr, hrow, hk, hk', k0, k1, hw, h7, h8, h10]
        exact ⟨⟨0, 0, rfl, by simp⟩, Fr.refl _⟩
    · cases ha : (l[k].2.1 == ((k + 1 : Nat) : Int))
      · simp [-Int.natCast_add, isM, xappendM, rowsIn, hr, hrow, hk, hk', k0, k1, hw, h7, h8, ha]
        exact fin [_, _] 2
      · simp [-Int.natCast_add, isM, xappendM, rowsIn, hr, hrow, hk, hk', k0, k1, hw, h7, h8, ha]
        exact fin [_] 1
  · simp [-Int.natCast_add, isM, xappendM, rowsIn, hr, hrow, hk, hk', k0, k1, hw, h7]
    exact fin [_] 1
end Go.Proofs.YtjofmihdeblbmaaGreatDoor.Xa
namespace Go.Proofs.YtjofmihdeblbmaaGreatDoor.Xa
open Go Go.RowKit
set_option linter.unusedVariables false
set_option linter.unusedSimpArgs false
set_option maxRecDepth 100000
set_option maxHeartbeats 1000000
/-- a function of stack code -/
structure SF where
  name : ByteArray
  params : Int
  locals : Int
  kid : Nat
  ksz : Nat
  consts : List (Int × Int)
  cv : V
  code : List Ins
def SF.v (f : SF) : List V := [.lit (.string f.name), .lit (.int .i64 f.params), .lit (.int .i64 f.locals), .slc f.kid f.ksz (f.consts.map kV), f.cv]
theorem SF.v_eq (f : SF) : f.v = [.lit (.string f.name), .lit (.int .i64 f.params), .lit (.int .i64 f.locals), .slc f.kid f.ksz (f.consts.map kV), f.cv] := rfl
structure SFAt (h : H) (f : SF) : Prop where
  code : CodeR h f.cv f.code
  ksz : f.consts ≠ [] → f.ksz = 5
  ok : KsOk f.consts
  len : f.code.length ≤ 100000
  lenk : f.consts.length ≤ 100000
theorem SFAt.fr {h h' : H} {f : SF} (x : SFAt h f) (y : Fr h h') : SFAt h' f := ⟨x.code.fr y, x.ksz, x.ok, x.len, x.lenk⟩
/-- a program as it is passed -/
def prV (pid psz : Nat) (fs : List SF) (main : Int) : List V := [.slc pid psz (fs.map SF.v), .lit (.int .i64 main)]
def formP (ps : List Int) (nk nc : Nat) (i : Ins) : Bool :=
  let op := i.1; let a := i.2.1; let b := i.2.2
  if op == 1 then withinP a (nk : Nat) && b == 0
  else if op == 4 || op == 10 || op == 11 then a == 0 && b == 0
  else if op == 5 then arityP a == 2 && b == 0
  else if op == 6 then arityP a == 1 && b == 0
  else if op == 7 || op == 8 then withinP a (nc : Nat) && b == 0
  else if op == 9 then withinP a (ps.length : Nat) && (ps[a.toNat]?).getD (-1) == b
  else if op == 12 then leB 1 a && leB a 4095 && b == 0
  else if op == 13 then withinP a 65 && b == 0
  else false
theorem form_cases {ps : List Int} {nk nc : Nat} {i : Ins} (h : formP ps nk nc i = true) :
    (∃ a, i = (1, a, 0) ∧ withinP a (nk : Nat) = true) ∨ i = (4, 0, 0) ∨ i = (10, 0, 0) ∨ i = (11, 0, 0) ∨ (∃ a, i = (5, a, 0) ∧ arityP a = 2) ∨ (∃ a, i = (6, a, 0) ∧ arityP a = 1) ∨
    (∃ a, i = (7, a, 0) ∧ withinP a (nc : Nat) = true) ∨ (∃ a, i = (8, a, 0) ∧ withinP a (nc : Nat) = true) ∨ (∃ a b, i = (9, a, b) ∧ withinP a (ps.length : Nat) = true ∧ (ps[a.toNat]?).getD (-1) = b) ∨
    (∃ a, i = (12, a, 0) ∧ leB 1 a = true ∧ leB a 4095 = true) ∨ (∃ a, i = (13, a, 0) ∧ withinP a 65 = true) := by
  obtain ⟨op, a, b⟩ := i
  unfold formP at h
  dsimp only at h
  split at h
  · rename_i g; simp at g h; obtain ⟨h1, rfl⟩ := h; subst g; exact .inl ⟨a, rfl, h1⟩
  split at h
  · rename_i g; simp at g h; obtain ⟨rfl, rfl⟩ := h; rcases g with (rfl | rfl) | rfl <;> simp
  split at h
  · rename_i g; simp at g h; obtain ⟨h1, rfl⟩ := h; subst g; simp [h1]
  split at h
  · rename_i g; simp at g h; obtain ⟨h1, rfl⟩ := h; subst g; simp [h1]
  split at h
  · rename_i g; simp at g h; obtain ⟨h1, rfl⟩ := h; rcases g with rfl | rfl <;> simp [h1]
  split at h
  · rename_i g; simp at g h; obtain ⟨h1, rfl⟩ := h; subst g; exact .inr (.inr (.inr (.inr (.inr (.inr (.inr (.inr (.inl ⟨a, _, rfl, h1, rfl⟩))))))))
  split at h
  · rename_i g; simp at g h; obtain ⟨⟨h1, h2⟩, rfl⟩ := h; subst g; simp [h1, h2]
  split at h
  · rename_i g; simp at g h; obtain ⟨h1, rfl⟩ := h; subst g; simp [h1]
  · cases h
theorem withinP_iff {a b : Int} : withinP a b = true ↔ 0 ≤ a ∧ a < b := by
  unfold withinP
  rw [Bool.and_eq_true]
  constructor
  · intro ⟨h1, h2⟩
    refine ⟨?_, ?_⟩
    · apply Classical.byContradiction; intro hn; rw [leB_f (by omega)] at h1; cases h1
    · apply Classical.byContradiction; intro hn; rw [ltB_f (by omega)] at h2; cases h2
  · intro ⟨h1, h2⟩
    exact ⟨leB_t h1, ltB_t h2⟩
attribute [local simp] hid2 hid3 hid4 xcode_skip xcode_region xcode_draw xcode_loop xcode_seq xcode_cond xcode_block xcode_scope xcode_exit xcode_ret xops_nil xops_cons xd_nil xd_cons xstep_eq annot fillOf findFill findStore srcOf kcls cls qval qvalN xwant dstAt want1 xdo xop ev_const ev_global ev_func ev_zero ev_succ ev_undefs ev_hit ev_miss put_none put_len undefs_len xnil xfieldAddr fieldOf eT emtb seqQ blockQ xload xstore splice V.storable V.one V.cells mk xbinop xbin xun xbuiltin xindexAddr nilOr xindex xint cv cv1 retQ xres_tmp xres_cell xres_nil xresult xbuild xfill xbuildSlice xrows Nat.testBit places xfield item sideOk pendOk pendOf tyT1 tyT2 tyT3 tyT4 tyT5 tyT9 tyT22 tyT23 tyT24 tyT25 tyT26 tyT30 tyT34 tyT39 tyT41 tyT47 tyT48 tyT50 tyT53 tyT54 tyT56 tyT58 tyT63 tyT70 tyT76 tyT78 tyT80 tyT84 tyT87 tyT89 tyT96 tyT98 tyT100 tyT102 tyT108 tyT110 tyT112 tyT113 tyT115 tyT119 tyT121 tyT124 tyT138 tyT139 tyT141 tyT142 tyT143 tyT145 tyT147 tyT149 tyT155 tyT158 tyT164 tyT179 tyT186 tyT188 tyT189 tyT194 tyT197 tyT200 tyT216 tyT242 tyT245 H.put_get H.new_get H.row_obj H.grow_obj H.bump_obj H.newArr_obj H.putArr_obj H.moveArr_obj H.put_arr H.new_arr H.row_arr H.grow_arr H.bump_arr H.newArr_get H.putArr_get H.moveArr_get H.put_ext H.new_ext H.newArr_ext H.putArr_ext H.moveArr_ext H.bump_ext H.row_get H.grow_get H.new_next H.row_next H.bump_next H.put_next H.grow_next H.newArr_next H.putArr_next H.moveArr_next H.app_next H.app_obj H.app_arr H.app_get bne emT emM xapp_em xmakeSlice xslice xlookup xmapUpdate keyShape
theorem form_calls (h : H) (pid psz : Nat) (fs : List SF) (main : Int) (f : SF) (hf : SFAt h f) (hz : fs ≠ [] → psz = 5) (i : Ins) (hi : formP (fs.map (·.params)) f.consts.length f.code.length i = true) :
    XCalls e 141 [.agg (prV pid psz fs main), .agg f.v, .agg (insV i)] h (fun v h' => v = .lit (.bool true) ∧ Fr h h') := by
  have hF : ∀ a b c, Fr h (((h.new a).new b).new c) := fun _ _ _ => ((Fr.new _ _).new1 _).new1 _
  obtain ⟨⟨id, r, hcv, hid, hr⟩, _, _, _, _⟩ := hf
  unfold insV prV
  rw [SF.v_eq f, hcv]
  refine XCalls.of Tryz.func141 rfl (by kernel_rfl) ?_
  rw [Tryz.ntmps141]
  have n1 : h.next ≠ h.next + 1 := by omega
  have n2 : h.next ≠ h.next + 2 := by omega
  have n3 : h.next + 1 ≠ h.next + 2 := by omega
  rcases form_cases hi with ⟨a, rfl, h1⟩ | rfl | rfl | rfl | ⟨a, rfl, h1⟩ | ⟨a, rfl, h1⟩ | ⟨a, rfl, h1⟩ | ⟨a, rfl, h1⟩ | ⟨a, b, rfl, h1, h2⟩ | ⟨a, rfl, h1, h2⟩ | ⟨a, rfl, h1⟩
  · simp [-Int.natCast_add, isM, xappendM, rowsIn, n1, n2, n3]
    refine (has_calls _ 1).mono ?_
    rintro _ _ ⟨rfl, rfl⟩
    simp [-Int.natCast_add, isM, xappendM, rowsIn, n1, n2, n3, hasP, show leB 1 1 = true from rfl, show leB 1 13 = true from rfl, hF]
    refine (swithin_calls _ a _).mono ?_
    rintro _ _ ⟨rfl, rfl⟩
    simp [-Int.natCast_add, isM, xappendM, rowsIn, h1, hF]
  · simp [-Int.natCast_add, isM, xappendM, rowsIn, n1, n2, n3]
    refine (has_calls _ 4).mono ?_
    rintro _ _ ⟨rfl, rfl⟩
    simp [-Int.natCast_add, isM, xappendM, rowsIn, n1, n2, n3, hasP, show leB 1 4 = true from rfl, show leB 4 13 = true from rfl, hF]
  · simp [-Int.natCast_add, isM, xappendM, rowsIn, n1, n2, n3]
    refine (has_calls _ 10).mono ?_
    rintro _ _ ⟨rfl, rfl⟩
    simp [-Int.natCast_add, isM, xappendM, rowsIn, n1, n2, n3, hasP, show leB 1 10 = true from rfl, show leB 10 13 = true from rfl, hF]
  · simp [-Int.natCast_add, isM, xappendM, rowsIn, n1, n2, n3]
    refine (has_calls _ 11).mono ?_
    rintro _ _ ⟨rfl, rfl⟩
    simp [-Int.natCast_add, isM, xappendM, rowsIn, n1, n2, n3, hasP, show leB 1 11 = true from rfl, show leB 11 13 = true from rfl, hF]
  · simp [-Int.natCast_add, isM, xappendM, rowsIn, n1, n2, n3]
    refine (has_calls _ 5).mono ?_
    rintro _ _ ⟨rfl, rfl⟩
    simp [-Int.natCast_add, isM, xappendM, rowsIn, n1, n2, n3, hasP, show leB 1 5 = true from rfl, show leB 5 13 = true from rfl, hF]
    refine (arity_calls _ a).mono ?_
    rintro _ _ ⟨rfl, rfl⟩
    simp [-Int.natCast_add, isM, xappendM, rowsIn, h1, hF]
  · simp [-Int.natCast_add, isM, xappendM, rowsIn, n1, n2, n3]
    refine (has_calls _ 6).mono ?_
    rintro _ _ ⟨rfl, rfl⟩
    simp [-Int.natCast_add, isM, xappendM, rowsIn, n1, n2, n3, hasP, show leB 1 6 = true from rfl, show leB 6 13 = true from rfl, hF]
    refine (arity_calls _ a).mono ?_
    rintro _ _ ⟨rfl, rfl⟩
    simp [-Int.natCast_add, isM, xappendM, rowsIn, h1, hF]
  · simp [-Int.natCast_add, isM, xappendM, rowsIn, n1, n2, n3]
    refine (has_calls _ 7).mono ?_
    rintro _ _ ⟨rfl, rfl⟩
    simp [-Int.natCast_add, isM, xappendM, rowsIn, n1, n2, n3, hasP, show leB 1 7 = true from rfl, show leB 7 13 = true from rfl, hF]
    refine (swithin_calls _ a _).mono ?_
    rintro _ _ ⟨rfl, rfl⟩
    simp [-Int.natCast_add, isM, xappendM, rowsIn, h1, hF]
  · simp [-Int.natCast_add, isM, xappendM, rowsIn, n1, n2, n3]
    refine (has_calls _ 8).mono ?_
    rintro _ _ ⟨rfl, rfl⟩
    simp [-Int.natCast_add, isM, xappendM, rowsIn, n1, n2, n3, hasP, show leB 1 8 = true from rfl, show leB 8 13 = true from rfl, hF]
    refine (swithin_calls _ a _).mono ?_
    rintro _ _ ⟨rfl, rfl⟩
    simp [-Int.natCast_add, isM, xappendM, rowsIn, h1, hF]
  · simp [-Int.natCast_add, isM, xappendM, rowsIn, n1, n2, n3]
    refine (has_calls _ 9).mono ?_
    rintro _ _ ⟨rfl, rfl⟩
    simp [-Int.natCast_add, isM, xappendM, rowsIn, n1, n2, n3, hasP, show leB 1 9 = true from rfl, show leB 9 13 = true from rfl, hF]
    refine XW.drawB mixed (L := List.range 19) (B := [0, 1, 0, 4, 12, 31, 63, 127, 255, 127, 639, 2047, 4095, 8191, 127, 16511, 65535, 131071, 262143]) (by kernel_rfl) (by kernel_rfl) ?_
    simp only [List.range, List.range.loop, List.map_cons, List.map_nil, item]
    simp only [annot, fillOf, findFill, findStore, srcOf, List.getD_cons_succ, List.getD_cons_zero]
    simp [-Int.natCast_add, isM, xappendM, rowsIn, n1, n2, n3]
    refine (swithin_calls _ a _).mono ?_
    rintro _ _ ⟨rfl, rfl⟩
    rw [List.length_map] at h1
    have h3 := withinP_iff.1 h1
    have h4 : a.toNat < fs.length := by omega
    have z5 : psz = 5 := hz (by intro h0; rw [h0] at h4; cases h4)
    have hb : fs[a.toNat].params = b := by
      rw [List.getElem?_map, List.getElem?_eq_getElem h4] at h2
      exact h2
    have ha0 : 0 ≤ a := h3.1
    have ha1 : a < (fs.length : Int) := h3.2
    simp [-Int.natCast_add, isM, xappendM, rowsIn, n1, n2, n3, h1, hF, z5, h4, ha0, ha1, SF.v_eq, hb]
  · simp [-Int.natCast_add, isM, xappendM, rowsIn, n1, n2, n3]
    refine (has_calls _ 12).mono ?_
    rintro _ _ ⟨rfl, rfl⟩
    simp [-Int.natCast_add, isM, xappendM, rowsIn, n1, n2, n3, hasP, show leB 1 12 = true from rfl, show leB 12 13 = true from rfl, hF, h1, h2]
  · simp [-Int.natCast_add, isM, xappendM, rowsIn, n1, n2, n3]
    refine (has_calls _ 13).mono ?_
    rintro _ _ ⟨rfl, rfl⟩
    simp [-Int.natCast_add, isM, xappendM, rowsIn, n1, n2, n3, hasP, show leB 1 13 = true from rfl, show leB 13 13 = true from rfl, hF]
    refine (swithin_calls _ a _).mono ?_
    rintro _ _ ⟨rfl, rfl⟩
    simp [-Int.natCast_add, isM, xappendM, rowsIn, h1, hF]
end Go.Proofs.YtjofmihdeblbmaaGreatDoor.Xa
namespace Go.Proofs.YtjofmihdeblbmaaGreatDoor.Xa
open Go Go.RowKit
set_option linter.unusedVariables false
set_option linter.unusedSimpArgs false
set_option maxRecDepth 100000
set_option maxHeartbeats 1000000
attribute [local simp] hid2 hid3 hid4 xcode_skip xcode_region xcode_draw xcode_loop xcode_seq xcode_cond xcode_block xcode_scope xcode_exit xcode_ret xops_nil xops_cons xd_nil xd_cons xstep_eq annot fillOf findFill findStore srcOf kcls cls qval qvalN xwant dstAt want1 xdo xop ev_const ev_global ev_func ev_zero ev_succ ev_undefs ev_hit ev_miss put_none put_len undefs_len xnil xfieldAddr fieldOf eT emtb seqQ blockQ xload xstore splice V.storable V.one V.cells mk xbinop xbin xun xbuiltin xindexAddr nilOr xindex xint cv cv1 retQ xres_tmp xres_cell xres_nil xresult xbuild xfill xbuildSlice xrows Nat.testBit places xfield item sideOk pendOk pendOf tyT1 tyT2 tyT3 tyT4 tyT5 tyT9 tyT22 tyT23 tyT24 tyT25 tyT26 tyT30 tyT34 tyT39 tyT41 tyT47 tyT48 tyT50 tyT53 tyT54 tyT56 tyT58 tyT63 tyT70 tyT76 tyT78 tyT80 tyT84 tyT87 tyT89 tyT96 tyT98 tyT100 tyT102 tyT108 tyT110 tyT112 tyT113 tyT115 tyT119 tyT121 tyT124 tyT138 tyT139 tyT141 tyT142 tyT143 tyT145 tyT147 tyT149 tyT155 tyT158 tyT164 tyT179 tyT186 tyT188 tyT189 tyT194 tyT197 tyT200 tyT216 tyT242 tyT245 H.put_get H.new_get H.row_obj H.grow_obj H.bump_obj H.newArr_obj H.putArr_obj H.moveArr_obj H.put_arr H.new_arr H.row_arr H.grow_arr H.bump_arr H.newArr_get H.putArr_get H.moveArr_get H.put_ext H.new_ext H.newArr_ext H.putArr_ext H.moveArr_ext H.bump_ext H.row_get H.grow_get H.new_next H.row_next H.bump_next H.put_next H.grow_next H.newArr_next H.putArr_next H.moveArr_next H.app_next H.app_obj H.app_arr H.app_get bne emT emM xapp_em xmakeSlice xslice xlookup xmapUpdate keyShape
theorem good1_calls (h : H) (k n : Int) (hk : ScOk k n) : XCalls e 138 [.agg (scV k n)] h (fun v h' => v = .lit (.bool false) ∧ Fr h h') := by
  refine XCalls.of Tryz.func138 rfl (by kernel_rfl) ?_
  rw [Tryz.ntmps138]
  unfold scV
  simp [-Int.natCast_add, isM, xappendM, rowsIn]
  refine (vok_calls _ k n hk).mono ?_
  rintro _ h1 ⟨rfl, hF1⟩
  simp [-Int.natCast_add, isM, xappendM, rowsIn]
  exact (Fr.new _ _).trans hF1
def GkJ (h : H) (kid ksz : Nat) (l : List (Int × Int)) : Nat → List V → H → Prop := fun m fr' h' => ∃ i : Nat, m + i = l.length + 1 ∧ i ≤ l.length ∧ Fr h h' ∧
  fr'.length = 19 ∧ ev fr' (.tmp 0) = .slc kid ksz (l.map kV) ∧ ev fr' (.tmp 1) = .fn 138 [] ∧ ev fr' (.tmp 7) = .lit (.int .i64 (l.length : Nat)) ∧ ev fr' (.tmp 8) = .lit (.int .i64 (i : Nat))
theorem gindex1_calls (h : H) (kid ksz : Nat) (l : List (Int × Int)) (hl : KsOk l) (hz : l ≠ [] → ksz = 5) (hn : l.length ≤ 100000) :
    XCalls e 133 [.slc kid ksz (l.map kV), .fn 138 []] h (fun v h' => v = .lit (.int .i64 (-1)) ∧ Fr h h') := by
  refine XCalls.of Tryz.func133 rfl (by kernel_rfl) ?_
  rw [Tryz.ntmps133]
  simp [-Int.natCast_add, isM, xappendM, rowsIn]
  refine XW.loopH (GkJ h kid ksz l) (l.length + 1) ?_ ?_
  · refine ⟨0, by omega, by omega, Fr.refl _, ?_⟩
    simp [-Int.natCast_add, isM, xappendM, rowsIn]
  · rintro m fr' h' ⟨i, hm, hi, hF, e0, e1, e2, e3, e4⟩
    rcases Nat.lt_or_ge i l.length with hlt | hlt
    · have hlt' : (i : Int) < (l.length : Int) := by omega
      have z5 := hz (by intro h0; rw [h0] at hlt; cases hlt)
      subst z5
      have hw : IntKind.i64.wrap ((i : Int) + 1) = ((i + 1 : Nat) : Int) := wrapS (a := i) (b := 1) (by omega)
      have hlen : (kV l[i]).length = 5 := rfl
      have htk : List.take 5 (kV l[i]) = scV l[i].1 l[i].2 := rfl
      simp [-Int.natCast_add, isM, xappendM, rowsIn, e0, e1, e2, e3, e4, hlt, hlt', ltB_t, hlen, htk]
      refine (good1_calls h' l[i].1 l[i].2 (hl _ (List.getElem_mem hlt))).mono ?_
      rintro _ h1 ⟨rfl, hF1⟩
      simp [-Int.natCast_add, isM, xappendM, rowsIn, e0, e1, e2, e3, e4]
      refine ⟨m - 1, by omega, i + 1, by omega, by omega, hF.trans hF1, ?_⟩
      simp [-Int.natCast_add, isM, xappendM, rowsIn, e0, e1, e2, e3, e4, hw]
    · have hie : i = l.length := by omega
      have hlf : ltB (i : Int) (l.length : Int) = false := ltB_f (by omega)
      simp [-Int.natCast_add, isM, xappendM, rowsIn, e0, e1, e2, e3, e4, hlf]
      exact hF
theorem gcont1_calls (h : H) (kid ksz : Nat) (l : List (Int × Int)) (hl : KsOk l) (hz : l ≠ [] → ksz = 5) (hn : l.length ≤ 100000) :
    XCalls e 137 [.slc kid ksz (l.map kV), .fn 138 []] h (fun v h' => v = .lit (.bool false) ∧ Fr h h') := by
  refine XCalls.of Tryz.func137 rfl (by kernel_rfl) ?_
  rw [Tryz.ntmps137]
  simp [-Int.natCast_add, isM, xappendM, rowsIn]
  refine (gindex1_calls h kid ksz l hl hz hn).mono ?_
  rintro _ h1 ⟨rfl, hF1⟩
  simp [-Int.natCast_add, isM, xappendM, rowsIn, show leB 0 (-1) = false from rfl]
  exact hF1
theorem good2_calls (h : H) (pid psz : Nat) (fs : List SF) (main : Int) (f : SF) (hf : SFAt h f) (hz : fs ≠ [] → psz = 5) (q1 q2 : Nat) (o1 : h.obj q1 = some (.cells (prV pid psz fs main) 50)) (o2 : h.obj q2 = some (.cells f.v 56)) (l1 : q1 < h.next) (l2 : q2 < h.next)
    (i : Ins) (hi : formP (fs.map (·.params)) f.consts.length f.code.length i = true) :
    XCalls e 140 [.agg (insV i), .ptr q1 0, .ptr q2 0] h (fun v h' => v = .lit (.bool false) ∧ Fr h h') := by
  refine XCalls.of Tryz.func140 rfl (by kernel_rfl) ?_
  rw [Tryz.ntmps140]
  have n1 : q1 ≠ h.next := by omega
  have n2 : q2 ≠ h.next := by omega
  have hl : f.v.length = 5 := rfl
  have ht : f.v.take 5 = f.v := rfl
  unfold prV at o1
  unfold insV
  simp [-Int.natCast_add, isM, xappendM, rowsIn, o1, o2, n1, n2, hl, ht]
  have := form_calls (h.new (.cells (insV i) 58)) pid psz fs main f (hf.fr (Fr.new _ _)) hz i hi
  unfold prV insV at this
  refine this.mono ?_
  rintro _ h1 ⟨rfl, hF1⟩
  simp [-Int.natCast_add, isM, xappendM, rowsIn]
  exact (Fr.new _ _).trans hF1
def GfJ (h : H) (v : V) (l : List Ins) (q1 q2 : Nat) : Nat → List V → H → Prop := fun m fr' h' => ∃ i : Nat, m + i = l.length + 1 ∧ i ≤ l.length ∧ Fr h h' ∧
  fr'.length = 19 ∧ ev fr' (.tmp 0) = v ∧ ev fr' (.tmp 1) = .fn 140 [.ptr q1 0, .ptr q2 0] ∧ ev fr' (.tmp 7) = .lit (.int .i64 (l.length : Nat)) ∧ ev fr' (.tmp 8) = .lit (.int .i64 (i : Nat))
theorem gindex2_calls (h : H) (pid psz : Nat) (fs : List SF) (main : Int) (f : SF) (hf : SFAt h f) (hz : fs ≠ [] → psz = 5) (q1 q2 : Nat) (o1 : h.obj q1 = some (.cells (prV pid psz fs main) 50)) (o2 : h.obj q2 = some (.cells f.v 56)) (l1 : q1 < h.next) (l2 : q2 < h.next)
    (hi : ∀ i ∈ f.code, formP (fs.map (·.params)) f.consts.length f.code.length i = true) :
    XCalls e 185 [f.cv, .fn 140 [.ptr q1 0, .ptr q2 0]] h (fun v h' => v = .lit (.int .i64 (-1)) ∧ Fr h h') := by
  obtain ⟨id, r, hcv, hid, hr⟩ := hf.code
  have hlen := hf.len
  rw [hcv]
  refine XCalls.of Tryz.func185 rfl (by kernel_rfl) ?_
  rw [Tryz.ntmps185]
  simp [-Int.natCast_add, isM, xappendM, rowsIn]
  refine XW.loopH (GfJ h (.msl id 0 f.code.length 3) f.code q1 q2) (f.code.length + 1) ?_ ?_
  · refine ⟨0, by omega, by omega, Fr.refl _, ?_⟩
    simp [-Int.natCast_add, isM, xappendM, rowsIn]
  · rintro m fr' h' ⟨k, hm, hk, hF, e0, e1, e2, e3, e4⟩
    rcases Nat.lt_or_ge k f.code.length with hlt | hlt
    · have hlt' : (k : Int) < (f.code.length : Int) := by omega
      have hw : IntKind.i64.wrap ((k : Int) + 1) = ((k + 1 : Nat) : Int) := wrapS (a := k) (b := 1) (by omega)
      have hr' := (hF.arr id hid).trans hr
      have hrow : (f.code.map insV ++ r)[k]? = some (insV f.code[k]) := by
        rw [List.getElem?_append_left (by simpa using hlt), List.getElem?_map, List.getElem?_eq_getElem hlt]
        rfl
      have hil : (insV f.code[k]).length = 3 := rfl
      have hit : (insV f.code[k]).take 3 = insV f.code[k] := rfl
      simp [-Int.natCast_add, isM, xappendM, rowsIn, e0, e1, e2, e3, e4, hlt, hlt', ltB_t, hr', hrow, hil, hit]
      refine (good2_calls h' pid psz fs main f (hf.fr hF) hz q1 q2 ((hF.obj q1 l1).trans o1) ((hF.obj q2 l2).trans o2) (Nat.lt_of_lt_of_le l1 hF.next) (Nat.lt_of_lt_of_le l2 hF.next) f.code[k] (hi _ (List.getElem_mem hlt))).mono ?_
      rintro _ h1 ⟨rfl, hF1⟩
      simp [-Int.natCast_add, isM, xappendM, rowsIn, e0, e1, e2, e3, e4]
      refine ⟨m - 1, by omega, k + 1, by omega, by omega, hF.trans hF1, ?_⟩
      simp [-Int.natCast_add, isM, xappendM, rowsIn, e0, e1, e2, e3, e4, hw]
    · have hlf : ltB (k : Int) (f.code.length : Int) = false := ltB_f (by omega)
      simp [-Int.natCast_add, isM, xappendM, rowsIn, e0, e1, e2, e3, e4, hlf]
      exact hF
theorem gcont2_calls (h : H) (pid psz : Nat) (fs : List SF) (main : Int) (f : SF) (hf : SFAt h f) (hz : fs ≠ [] → psz = 5) (q1 q2 : Nat) (o1 : h.obj q1 = some (.cells (prV pid psz fs main) 50)) (o2 : h.obj q2 = some (.cells f.v 56)) (l1 : q1 < h.next) (l2 : q2 < h.next)
    (hi : ∀ i ∈ f.code, formP (fs.map (·.params)) f.consts.length f.code.length i = true) :
    XCalls e 139 [f.cv, .fn 140 [.ptr q1 0, .ptr q2 0]] h (fun v h' => v = .lit (.bool false) ∧ Fr h h') := by
  refine XCalls.of Tryz.func139 rfl (by kernel_rfl) ?_
  rw [Tryz.ntmps139]
  simp [-Int.natCast_add, isM, xappendM, rowsIn]
  refine (gindex2_calls h pid psz fs main f hf hz q1 q2 o1 o2 l1 l2 hi).mono ?_
  rintro _ h1 ⟨rfl, hF1⟩
  simp [-Int.natCast_add, isM, xappendM, rowsIn, show leB 0 (-1) = false from rfl]
  exact hF1
def goodP (ps : List Int) (nk : Nat) (params locals : Int) (code : List Ins) : Bool :=
  !ltB params 0 && !ltB 8 params && !ltB locals params && !ltB 64 locals && !((code.length : Int) == 0) && !ltB 1000 (code.length : Nat) && code.all (formP ps nk code.length)
theorem good_calls (h : H) (pid psz : Nat) (fs : List SF) (main : Int) (f : SF) (hf : SFAt h f) (hz : fs ≠ [] → psz = 5) (hg : goodP (fs.map (·.params)) f.consts.length f.params f.locals f.code = true) :
    XCalls e 82 [.agg (prV pid psz fs main), .agg f.v] h (fun v h' => v = .lit (.bool true) ∧ Fr h h') := by
  unfold goodP at hg
  simp only [Bool.and_eq_true, Bool.not_eq_true'] at hg
  obtain ⟨⟨⟨⟨⟨⟨g1, g2⟩, g3⟩, g4⟩, g5⟩, g6⟩, g7⟩ := hg
  rw [List.all_eq_true] at g7
  obtain ⟨id, r, hcv, hid, hr⟩ := hf.code
  have hv := SF.v_eq f
  have n1 : h.next ≠ h.next + 1 := by omega
  unfold prV
  rw [hv]
  refine XCalls.of Tryz.func82 rfl (by kernel_rfl) ?_
  rw [Tryz.ntmps82]
  have hB : Fr h ((h.new (.cells (prV pid psz fs main) 50)).new (.cells f.v 56)) := (Fr.new _ _).new1 _
  simp [-Int.natCast_add, isM, xappendM, rowsIn, n1, hcv, g1, g2, g3, g4, g5, g6]
  refine (gcont1_calls _ f.kid f.ksz f.consts hf.ok hf.ksz hf.lenk).mono ?_
  rintro _ h1 ⟨rfl, hF1⟩
  unfold prV at hB
  rw [hv, hcv] at hB
  have hn1 := hF1.next
  simp only [H.new_next] at hn1
  have o1 := hF1.obj h.next (by simp only [H.new_next]; omega)
  have o2 := hF1.obj (h.next + 1) (by simp only [H.new_next]; omega)
  simp [H.new_get, H.new_next, n1] at o1 o2
  have hB1 := hB.trans hF1
  rw [← hcv, ← hv] at o2
  have hl : f.v.length = 5 := rfl
  have k2 := gcont2_calls h1 pid psz fs main f (hf.fr hB1) hz h.next (h.next + 1) o1 o2 (by omega) (by omega) g7
  rw [hv] at o2
  rw [hcv] at o2 k2
  simp [-Int.natCast_add, isM, xappendM, rowsIn, o1, o2]
  refine k2.mono ?_
  rintro _ h2 ⟨rfl, hF2⟩
  simp [-Int.natCast_add, isM, xappendM, rowsIn]
  exact hB1.trans hF2
end Go.Proofs.YtjofmihdeblbmaaGreatDoor.Xa

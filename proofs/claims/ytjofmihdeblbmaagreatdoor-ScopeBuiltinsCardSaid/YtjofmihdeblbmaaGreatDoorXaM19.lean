/- XA, joined: XaR XaR5 XaR6. -/
import Derived.Test.YtjofmihdeblbmaaGreatDoorXaM18
/- XA, part R: trees in memory, what a callee leaves as it was. -/
namespace Go.Proofs.YtjofmihdeblbmaaGreatDoor.Xa
open Go Go.RowKit
set_option linter.unusedVariables false
set_option linter.unusedSimpArgs false
set_option maxRecDepth 100000
set_option maxHeartbeats 1000000
/-- a tree with its rows' numbers; a leaf's row is nil -/
inductive TN where
  | leaf (kind op : Int) (s : ByteArray) (n : Int)
  | mk (kind op : Int) (s : ByteArray) (n : Int) (id : Nat) (l : List TN)
mutual
def TN.v : TN → List V
  | .leaf k o s n => [.lit (.int .i64 k), .lit (.int .i64 o), .lit (.string s), .lit (.int .i64 n), .slc 0 0 []]
  | .mk k o s n id l => [.lit (.int .i64 k), .lit (.int .i64 o), .lit (.string s), .lit (.int .i64 n), .slc id 5 (TN.vs l)]
def TN.vs : List TN → List (List V)
  | [] => []
  | t :: l => t.v :: TN.vs l
end
mutual
def TN.nd : TN → Nd
  | .leaf k o s n => .mk k o s n []
  | .mk k o s n id l => .mk k o s n (TN.nds l)
def TN.nds : List TN → List Nd
  | [] => []
  | t :: l => t.nd :: TN.nds l
end
theorem TN.v_len (t : TN) : t.v.length = 5 := by cases t <;> simp [TN.v]
theorem TN.v_take (t : TN) : t.v.take 5 = t.v := List.take_of_length_le (by rw [TN.v_len]; decide)
theorem TN.v_drop (t : TN) : t.v.drop 5 = [] := List.drop_of_length_le (by rw [TN.v_len]; decide)
theorem TN.vs_map (l : List TN) : TN.vs l = l.map TN.v := by induction l with
  | nil => rfl
  | cons t l ih => simp [TN.vs, ih]
theorem TN.nds_map (l : List TN) : TN.nds l = l.map TN.nd := by induction l with
  | nil => rfl
  | cons t l ih => simp [TN.nds, ih]
/-- what was there is there -/
structure Fr (h h' : H) : Prop where
  next : h.next ≤ h'.next
  obj : ∀ j, j < h.next → h'.obj j = h.obj j
  ext : ∀ j, j < h.next → h'.ext j = h.ext j
  arr : ∀ j, j < h.next → h'.arr j = h.arr j
theorem Fr.refl (h : H) : Fr h h := ⟨Nat.le_refl _, fun _ _ => rfl, fun _ _ => rfl, fun _ _ => rfl⟩
theorem Fr.trans {a b c : H} (x : Fr a b) (y : Fr b c) : Fr a c := ⟨Nat.le_trans x.next y.next, fun j hj => (y.obj j (Nat.lt_of_lt_of_le hj x.next)).trans (x.obj j hj), fun j hj => (y.ext j (Nat.lt_of_lt_of_le hj x.next)).trans (x.ext j hj), fun j hj => (y.arr j (Nat.lt_of_lt_of_le hj x.next)).trans (x.arr j hj)⟩
theorem Fr.new (h : H) (o : Obj) : Fr h (h.new o) := ⟨Nat.le_succ _, fun j hj => by simp [H.new, Nat.ne_of_lt hj], fun _ _ => rfl, fun _ _ => rfl⟩
theorem Fr.row (h : H) (n : Nat) : Fr h (h.row n) := ⟨Nat.le_succ _, fun _ _ => rfl, fun j hj => by simp [H.row, Nat.ne_of_lt hj], fun _ _ => rfl⟩
theorem Fr.bump (h : H) : Fr h h.bump := ⟨Nat.le_succ _, fun _ _ => rfl, fun _ _ => rfl, fun _ _ => rfl⟩
theorem Fr.newArr (h : H) (a : Arr) : Fr h (h.newArr a) := ⟨Nat.le_succ _, fun _ _ => rfl, fun _ _ => rfl, fun j hj => by simp [H.newArr, Nat.ne_of_lt hj]⟩
theorem Fr.grow {h0 h : H} (x : Fr h0 h) {id : Nat} (hid : h0.next ≤ id) (n : Nat) : Fr h0 (h.grow id n) := ⟨Nat.le_succ_of_le x.next, x.obj, fun j hj => by
  have h1 : j ≠ h.next := by have := x.next; omega
  have h2 : j ≠ id := by omega
  simp [H.grow, h1, h2, x.ext j hj], x.arr⟩
theorem Fr.put {h0 h : H} (x : Fr h0 h) {q : Nat} (hq : h0.next ≤ q) (o : Obj) : Fr h0 (h.put q o) := ⟨x.next, fun j hj => by
  have h2 : j ≠ q := by omega
  simp [H.put, h2, x.obj j hj], x.ext, x.arr⟩
theorem Fr.putArr {h0 h : H} (x : Fr h0 h) {q : Nat} (hq : h0.next ≤ q) (a : Arr) : Fr h0 (h.putArr q a) := ⟨x.next, x.obj, x.ext, fun j hj => by
  have h2 : j ≠ q := by omega
  simp [H.putArr, h2, x.arr j hj]⟩
theorem Fr.moveArr {h0 h : H} (x : Fr h0 h) {q : Nat} (hq : h0.next ≤ q) (a : Arr) : Fr h0 (h.moveArr q a) := ⟨Nat.le_succ_of_le x.next, x.obj, x.ext, fun j hj => by
  have h1 : j ≠ h.next := by have := x.next; omega
  have h2 : j ≠ q := by omega
  simp [H.moveArr, h1, h2, x.arr j hj]⟩
section
variable (h : H) (o : Obj) (a : Arr) (n id p q : Nat)
theorem H.put_get : (h.put p o).obj q = if q = p then some o else h.obj q := by exact (_root_.id rfl)
theorem H.new_get : (h.new o).obj q = if q = h.next then some o else h.obj q := by exact (_root_.id rfl)
theorem H.row_obj : (h.row n).obj = h.obj := by exact (_root_.id rfl)
theorem H.grow_obj : (h.grow id n).obj = h.obj := by exact (_root_.id rfl)
theorem H.bump_obj : h.bump.obj = h.obj := by exact (_root_.id rfl)
theorem H.newArr_obj : (h.newArr a).obj = h.obj := by exact (_root_.id rfl)
theorem H.putArr_obj : (h.putArr id a).obj = h.obj := by exact (_root_.id rfl)
theorem H.moveArr_obj : (h.moveArr id a).obj = h.obj := by exact (_root_.id rfl)
theorem H.put_arr : (h.put p o).arr = h.arr := by exact (_root_.id rfl)
theorem H.new_arr : (h.new o).arr = h.arr := by exact (_root_.id rfl)
theorem H.row_arr : (h.row n).arr = h.arr := by exact (_root_.id rfl)
theorem H.grow_arr : (h.grow id n).arr = h.arr := by exact (_root_.id rfl)
theorem H.bump_arr : h.bump.arr = h.arr := by exact (_root_.id rfl)
theorem H.newArr_get : (h.newArr a).arr q = if q = h.next then some a else h.arr q := by exact (_root_.id rfl)
theorem H.putArr_get : (h.putArr id a).arr q = if q = id then some a else h.arr q := by exact (_root_.id rfl)
theorem H.moveArr_get : (h.moveArr id a).arr q = if q = h.next then some a else if q = id then none else h.arr q := by exact (_root_.id rfl)
theorem H.put_ext : (h.put p o).ext = h.ext := by exact (_root_.id rfl)
theorem H.new_ext : (h.new o).ext = h.ext := by exact (_root_.id rfl)
theorem H.newArr_ext : (h.newArr a).ext = h.ext := by exact (_root_.id rfl)
theorem H.putArr_ext : (h.putArr id a).ext = h.ext := by exact (_root_.id rfl)
theorem H.moveArr_ext : (h.moveArr id a).ext = h.ext := by exact (_root_.id rfl)
theorem H.bump_ext : h.bump.ext = h.ext := by exact (_root_.id rfl)
theorem H.row_get : (h.row n).ext q = if q = h.next then some n else h.ext q := by exact (_root_.id rfl)
theorem H.grow_get : (h.grow id n).ext q = if q = h.next then some n else if q = id then none else h.ext q := by exact (_root_.id rfl)
theorem H.new_next : (h.new o).next = h.next + 1 := by exact (_root_.id rfl)
theorem H.row_next : (h.row n).next = h.next + 1 := by exact (_root_.id rfl)
theorem H.bump_next : h.bump.next = h.next + 1 := by exact (_root_.id rfl)
theorem H.put_next : (h.put q o).next = h.next := by exact (_root_.id rfl)
theorem H.grow_next : (h.grow id n).next = h.next + 1 := by exact (_root_.id rfl)
theorem H.newArr_next : (h.newArr a).next = h.next + 1 := by exact (_root_.id rfl)
theorem H.putArr_next : (h.putArr id a).next = h.next := by exact (_root_.id rfl)
theorem H.moveArr_next : (h.moveArr id a).next = h.next + 1 := by exact (_root_.id rfl)
theorem H.row_ext_self : (h.row n).ext h.next = some n := by simp [H.row]
theorem H.row_ext_ne {j : Nat} (hj : j < h.next) : (h.row n).ext j = h.ext j := by simp [H.row, Nat.ne_of_lt hj]
theorem H.grow_ext_self : (h.grow id n).ext h.next = some n := by simp [H.grow]
theorem ne4 {x y : Nat} (h : x < y) : x ≠ y ∧ y ≠ x ∧ (∀ k, x ≠ y + k) ∧ (∀ k, y + k ≠ x) := ⟨by omega, by omega, fun k => by omega, fun k => by omega⟩
end
theorem Fr.new1 {h0 h : H} (x : Fr h0 h) (o : Obj) : Fr h0 (h.new o) := x.trans (Fr.new h o)
theorem Fr.row1 {h0 h : H} (x : Fr h0 h) (n : Nat) : Fr h0 (h.row n) := x.trans (Fr.row h n)
theorem Fr.bump1 {h0 h : H} (x : Fr h0 h) : Fr h0 h.bump := x.trans (Fr.bump h)
theorem Fr.newArr1 {h0 h : H} (x : Fr h0 h) (a : Arr) : Fr h0 (h.newArr a) := x.trans (Fr.newArr h a)
/-- a row that grows: nil, or of the call's own with the right to append -/
def Own (h : H) (id sz n w : Nat) (lo : Nat) : Prop := (n = 0 ∧ id = 0 ∧ sz = 0) ∨ (lo ≤ id ∧ id < h.next ∧ sz = w ∧ h.ext id = some n ∧ id ≠ 0)
def H.app (h : H) (id n : Nat) : H := if id = 0 then h.row n else h.grow id n
theorem H.app_next (h : H) (id n : Nat) : (h.app id n).next = h.next + 1 := by unfold H.app; split <;> rfl
theorem H.app_obj (h : H) (id n : Nat) : (h.app id n).obj = h.obj := by unfold H.app; split <;> rfl
theorem H.app_arr (h : H) (id n : Nat) : (h.app id n).arr = h.arr := by unfold H.app; split <;> rfl
theorem H.app_put (h : H) (q : Nat) (o : Obj) (id n : Nat) : (h.put q o).app id n = (h.app id n).put q o := by unfold H.app; split <;> rfl
theorem H.app_get (h : H) (id n q : Nat) : (h.app id n).ext q = if q = h.next then some n else if q = id ∧ id ≠ 0 then none else h.ext q := by
  unfold H.app
  split
  · rename_i h0
    simp [H.row, h0]
  · rename_i h0
    simp [H.grow, h0]
theorem Fr.app {h0 h : H} (x : Fr h0 h) {id : Nat} (hid : id = 0 ∨ h0.next ≤ id) (n : Nat) : Fr h0 (h.app id n) := by
  unfold H.app
  split
  · exact x.row1 n
  · exact x.grow (by omega) n
theorem Own.low {h : H} {id sz n w lo : Nat} (x : Own h id sz n w lo) : id = 0 ∨ lo ≤ id := by rcases x with ⟨_, h1, _⟩ | ⟨h1, _⟩ <;> simp [h1]
theorem Own.nil (h : H) (w lo : Nat) : Own h 0 0 0 w lo := .inl ⟨rfl, rfl, rfl⟩
theorem Own.mono {h h' : H} {id sz n w lo : Nat} (x : Own h id sz n w lo) (f : Fr h h') : Own h' id sz n w lo := by
  rcases x with x | ⟨h1, h2, h3, h4, h5⟩
  · exact .inl x
  · exact .inr ⟨h1, Nat.lt_of_lt_of_le h2 f.next, h3, by rw [f.ext id h2, h4], h5⟩
theorem Own.of_ext {h h' : H} {id sz n w lo : Nat} (x : Own h id sz n w lo) (e1 : h.next ≤ h'.next) (e2 : h'.ext id = h.ext id) : Own h' id sz n w lo := by
  rcases x with x | ⟨h1, h2, h3, h4, h5⟩
  · exact .inl x
  · exact .inr ⟨h1, Nat.lt_of_lt_of_le h2 e1, h3, by rw [e2, h4], h5⟩
theorem Own.app {h : H} {id k w lo : Nat} (hl : lo ≤ h.next) (hp : 0 < h.next) : Own (h.app id k) h.next w k w lo := by
  refine .inr ⟨hl, by rw [H.app_next]; omega, rfl, ?_, by omega⟩
  rw [H.app_get, if_pos rfl]
theorem Own.app_ne {h : H} {id sz n w lo j k : Nat} (x : Own h id sz n w lo) (hne : j = id → id = 0) : Own (h.app j k) id sz n w lo := by
  rcases x with x | ⟨h1, h2, h3, h4, h5⟩
  · exact .inl x
  · refine .inr ⟨h1, by rw [H.app_next]; omega, h3, ?_, h5⟩
    rw [H.app_get, if_neg (by omega), if_neg (fun q => h5 (hne q.1.symm)), h4]
theorem xapp_own (t : Nat) {ty ety : Ty} {el : TypeId} {w : Nat} (hT : tyT t = some ty) (hd : ty.desc = .slc el) (hE : tyT el = some ety) (hw : ety.size = w) (h0 : 0 < w) {h : H} {id sz id2 lo : Nat} {xs ys : List (List V)} (hO : Own h id sz xs.length w lo) (h2 : id2 ≠ 0) (hy : ys.length ≠ 0)
    (hb : (xs.length + ys.length) * ety.bytes ≤ 140737488355328) (hm : xs.length + ys.length ≤ maxLen) : xappend e t (.slc id sz xs) (.slc id2 w ys) h = some (.slc h.next w (xs ++ ys), h.app id (xs.length + ys.length)) := by
  unfold xappend H.app
  rw [eT, hT]
  dsimp only
  rw [hd]
  dsimp only
  rw [eT, hE]
  dsimp only
  rw [if_pos ⟨hw.symm, by rw [hw]; exact h0, h2, hy, hb, hm⟩, hw]
  rcases hO with ⟨h3, rfl, rfl⟩ | ⟨h3, h4, rfl, h5, h6⟩
  · rw [if_pos rfl, if_pos rfl]
  · rw [if_neg h6, if_neg h6, if_pos ⟨rfl, h5⟩]
section
variable (c : PC) (h : H) (s : PS)
theorem PC.at_next : (c.at_ h s).next = h.next := rfl
theorem PC.at_ext : (c.at_ h s).ext = h.ext := rfl
theorem PC.at_row (n : Nat) : (c.at_ h s).row n = c.at_ (h.row n) s := rfl
theorem PC.at_app (id n : Nat) : (c.at_ h s).app id n = c.at_ (h.app id n) s := H.app_put _ _ _ _ _
theorem PC.at_bump : (c.at_ h s).bump = c.at_ h.bump s := rfl
theorem PC.at_grow (id n : Nat) : (c.at_ h s).grow id n = c.at_ (h.grow id n) s := rfl
theorem PC.at_new (o : Obj) (hp : c.p < h.next) : (c.at_ h s).new o = c.at_ (h.new o) s := by
  unfold PC.at_ H.put H.new
  congr 1
  funext i
  dsimp only
  by_cases h1 : i = h.next
  · have : i ≠ c.p := by omega
    simp [h1]
    omega
  · simp [h1]
theorem PC.at_put {q : Nat} (o : Obj) (hq : q ≠ c.p) : (c.at_ h s).put q o = c.at_ (h.put q o) s := by
  unfold PC.at_ H.put
  congr 1
  funext i
  dsimp only
  by_cases h1 : i = q
  · have : i ≠ c.p := by omega
    simp [h1, hq]
  · simp [h1]
theorem PC.at_obj_ne {q : Nat} (hq : q ≠ c.p) : (c.at_ h s).obj q = h.obj q := H.put_ne _ _ hq
theorem H.new_self (o : Obj) : (h.new o).obj h.next = some o := by simp [H.new]
theorem H.new_ne (o : Obj) {q : Nat} (hq : q < h.next) : (h.new o).obj q = h.obj q := by simp [H.new, Nat.ne_of_lt hq]
end
def NdV (nd : Nd) (v : V) : Prop := ∃ t : TN, v = .agg t.v ∧ t.nd = nd
def NPost (c : PC) (h : H) (s' : PS) (vp : V → Prop) : V → H → Prop := fun v h' => ∃ h1, Fr h h1 ∧ h' = c.at_ h1 s' ∧ vp v
def CLevel (f : Nat) : Prop := ∀ (c : PC) (h : H) (s : PS) (n : Int) (nd : Nd) (s' : PS), c.ok → c.p < h.next → pLevel f c s n = some (nd, s') → XCalls e 41 [.ptr c.p 0, .lit (.int .i64 n)] (c.at_ h s) (NPost c h s' (NdV nd))
def CLogic (f : Nat) : Prop := ∀ (c : PC) (h : H) (s : PS) (n : Int) (nd : Nd) (s' : PS), c.ok → c.p < h.next → pLogic f c s n = some (nd, s') → XCalls e 73 [.ptr c.p 0, .lit (.int .i64 n)] (c.at_ h s) (NPost c h s' (NdV nd))
def CRow (f : Nat) : Prop := ∀ (c : PC) (h : H) (s : PS) (n : Int) (nd : Nd) (s' : PS), c.ok → c.p < h.next → pRow f c s n = some (nd, s') → XCalls e 74 [.ptr c.p 0, .lit (.int .i64 n)] (c.at_ h s) (NPost c h s' (NdV nd))
def CUnary (f : Nat) : Prop := ∀ (c : PC) (h : H) (s : PS) (nd : Nd) (s' : PS), c.ok → c.p < h.next → pUnary f c s = some (nd, s') → XCalls e 75 [.ptr c.p 0] (c.at_ h s) (NPost c h s' (NdV nd))
def CIndex (f : Nat) : Prop := ∀ (c : PC) (h : H) (s : PS) (nd : Nd) (s' : PS), c.ok → c.p < h.next → pIndex f c s = some (nd, s') → XCalls e 76 [.ptr c.p 0] (c.at_ h s) (NPost c h s' (NdV nd))
def CPlain (f : Nat) : Prop := ∀ (c : PC) (h : H) (s : PS) (nd : Nd) (s' : PS), c.ok → c.p < h.next → pPlain f c s = some (nd, s') → XCalls e 125 [.ptr c.p 0] (c.at_ h s) (NPost c h s' (NdV nd))
def CNamed (f : Nat) : Prop := ∀ (c : PC) (h : H) (s : PS) (nd : Nd) (s' : PS), c.ok → c.p < h.next → s.i < c.toks.length → pNamed f c s = some (nd, s') → XCalls e 176 [.ptr c.p 0] (c.at_ h s) (NPost c h s' (NdV nd))
def COther (f : Nat) : Prop := ∀ (c : PC) (h : H) (s : PS) (nd : Nd) (s' : PS), c.ok → c.p < h.next → pOther f c s = some (nd, s') → XCalls e 177 [.ptr c.p 0] (c.at_ h s) (NPost c h s' (NdV nd))
def LsV (l : List Nd) (v : V) : Prop := (v = .slc 0 0 [] ∧ l = []) ∨ ∃ (id : Nat) (ts : List TN), v = .slc id 5 (TN.vs ts) ∧ TN.nds ts = l
def CList (f : Nat) : Prop := ∀ (c : PC) (h : H) (s : PS) (t : ByteArray) (l : List Nd) (s' : PS), c.ok → c.p < h.next → (s.e == 0) = true → pList f c s t = some (l, s') → XCalls e 209 [.ptr c.p 0, .lit (.string t)] (c.at_ h s) (NPost c h s' (LsV l))
end Go.Proofs.YtjofmihdeblbmaaGreatDoor.Xa
/- XA, part R5: within, unary, index. -/
namespace Go.Proofs.YtjofmihdeblbmaaGreatDoor.Xa
open Go Go.RowKit
set_option linter.unusedVariables false
set_option linter.unusedSimpArgs false
set_option maxRecDepth 100000
set_option maxHeartbeats 1000000
def WPost (c : PC) (K : H → PS → Prop) : V → H → Prop := fun v h' => v = .tup [] ∧ ∃ h1 s1, h' = c.at_ h1 s1 ∧ K h1 s1
attribute [local simp] hid2 hid3 hid4 xcode_skip xcode_region xcode_draw xcode_loop xcode_seq xcode_cond xcode_block xcode_scope xcode_exit xcode_ret xops_nil xops_cons xd_nil xd_cons xstep_eq annot fillOf findFill findStore srcOf kcls cls qval qvalN xwant dstAt want1 xdo xop ev_const ev_global ev_func ev_zero ev_succ ev_undefs ev_hit ev_miss put_none put_len undefs_len xnil xfieldAddr fieldOf eT emtb seqQ blockQ xload xstore splice V.storable V.one V.cells mk xbinop xbin xun xbuiltin xindexAddr nilOr xindex xint cv cv1 retQ xres_tmp xres_cell xres_nil xresult xbuild xfill xbuildSlice xrows Nat.testBit places xfield item sideOk pendOk pendOf tyT1 tyT2 tyT3 tyT4 tyT5 tyT9 tyT22 tyT23 tyT24 tyT25 tyT26 tyT30 tyT34 tyT39 tyT41 tyT47 tyT48 tyT50 tyT53 tyT54 tyT56 tyT58 tyT63 tyT70 tyT76 tyT78 tyT80 tyT84 tyT87 tyT89 tyT96 tyT98 tyT100 tyT102 tyT108 tyT110 tyT112 tyT113 tyT115 tyT119 tyT121 tyT124 tyT138 tyT139 tyT141 tyT142 tyT143 tyT145 tyT147 tyT149 tyT155 tyT158 tyT164 tyT179 tyT186 tyT188 tyT189 tyT194 tyT197 tyT200 tyT216 tyT242 tyT245 isM bne PC.at_obj PC.put_at PC.at_at PC.at_eq H.put_same H.put_put Tok.v PC.at_next PC.at_ext PC.at_row PC.at_bump PC.at_grow PC.at_new PC.at_put PC.at_obj_ne H.new_self H.new_ne H.row_obj H.put_next TN.v_len TN.v_take TN.v_drop
theorem within_calls (c : PC) (h : H) (s : PS) (g : FuncId) (caps : List V) (K : H → PS → Prop)
    (hin : (entS c s).e = 0 → XCalls e g caps (c.at_ h { entS c s with deep := wr ((entS c s).deep + 1) }) (fun v h' => ∃ h1 s1, h' = c.at_ h1 s1 ∧ K h1 (outS s1)))
    (hout : (entS c s).e ≠ 0 → K h (entS c s)) :
    XCalls e 123 [.ptr c.p 0, .fn g caps] (c.at_ h s) (WPost c K) := by
  refine XCalls.of Tryz.func123 rfl (by kernel_rfl) ?_
  rw [Tryz.ntmps123]
  cases hd : leB 24 s.deep
  · have he1 : entS c s = s := by simp [entS, hd]
    rw [he1] at hin hout
    cases he : (s.e == 0)
    · simp [-Int.natCast_add, hd, he]
      exact ⟨rfl, h, s, rfl, hout (by simpa using he)⟩
    · simp [-Int.natCast_add, hd, he]
      refine (hin (by simpa using he)).mono ?_
      rintro v _ ⟨h1, s1, rfl, hk⟩
      simp [-Int.natCast_add]
      exact ⟨rfl, h1, _, rfl, hk⟩
  · have he1 : entS c s = wrongS c s 21 := by simp [entS, hd]
    have he2 : (wrongS c s 21).e ≠ 0 := by
      unfold wrongS
      split
      · show (21 : Int) ≠ 0
        decide
      · rename_i h0; simpa using h0
    rw [he1] at hin hout
    simp [-Int.natCast_add, hd]
    refine (wrong_calls c h s 21).mono ?_
    rintro _ _ ⟨rfl, rfl⟩
    have he3 : ((wrongS c s 21).e == 0) = false := by simpa using he2
    simp [-Int.natCast_add, he3, he2]
    exact ⟨rfl, h, _, rfl, hout he2⟩
def UnK (h0 : H) (q4 : Nat) (o : Int) (nd : Nd) (s' : PS) : H → PS → Prop := fun h1 s1 => Fr h0 h1 ∧ s1 = s' ∧ ∃ t : TN, h1.obj q4 = some (.cells t.v 41) ∧ t.nd = nd
end Go.Proofs.YtjofmihdeblbmaaGreatDoor.Xa
/- XA, part R6: unary. -/
namespace Go.Proofs.YtjofmihdeblbmaaGreatDoor.Xa
open Go Go.RowKit
set_option linter.unusedVariables false
set_option linter.unusedSimpArgs false
set_option maxRecDepth 100000
set_option maxHeartbeats 1000000
/-- behind a call a cell of the caller's holds a tree -/
def TK (h0 : H) (q : Nat) (nd : Nd) (s' : PS) : H → PS → Prop := fun h1 s1 => s1 = s' ∧ ∃ h2 T, Fr h0 h2 ∧ h1 = h2.put q (.cells (TN.v T) 41) ∧ T.nd = nd
def CPost (c : PC) (h0 : H) (q : Nat) (nd : Nd) (s' : PS) : V → H → Prop := fun v h' => ∃ h1 s1, h' = c.at_ h1 s1 ∧ TK h0 q nd s' h1 (outS s1)
attribute [local simp] hid2 hid3 hid4 xcode_skip xcode_region xcode_draw xcode_loop xcode_seq xcode_cond xcode_block xcode_scope xcode_exit xcode_ret xops_nil xops_cons xd_nil xd_cons xstep_eq annot fillOf findFill findStore srcOf kcls cls qval qvalN xwant dstAt want1 xdo xop ev_const ev_global ev_func ev_zero ev_succ ev_undefs ev_hit ev_miss put_none put_len undefs_len xnil xfieldAddr fieldOf eT emtb seqQ blockQ xload xstore splice V.storable V.one V.cells mk xbinop xbin xun xbuiltin xindexAddr nilOr xindex xint cv cv1 retQ xres_tmp xres_cell xres_nil xresult xbuild xfill xbuildSlice xrows Nat.testBit places xfield item sideOk pendOk pendOf tyT1 tyT2 tyT3 tyT4 tyT5 tyT9 tyT22 tyT23 tyT24 tyT25 tyT26 tyT30 tyT34 tyT39 tyT41 tyT47 tyT48 tyT50 tyT53 tyT54 tyT56 tyT58 tyT63 tyT70 tyT76 tyT78 tyT80 tyT84 tyT87 tyT89 tyT96 tyT98 tyT100 tyT102 tyT108 tyT110 tyT112 tyT113 tyT115 tyT119 tyT121 tyT124 tyT138 tyT139 tyT141 tyT142 tyT143 tyT145 tyT147 tyT149 tyT155 tyT158 tyT164 tyT179 tyT186 tyT188 tyT189 tyT194 tyT197 tyT200 tyT216 tyT242 tyT245 isM bne PC.at_obj PC.put_at PC.at_at PC.at_eq H.put_same H.put_put Tok.v PC.at_next PC.at_ext PC.at_row PC.at_bump PC.at_grow PC.at_new PC.at_put PC.at_obj_ne H.new_self H.new_ne H.row_obj H.put_next TN.v_len TN.v_take TN.v_drop
theorem un1 (f : Nat) (h1 : CLevel f) (c : PC) (hc : c.ok) (h : H) (hp : c.p < h.next) (s : PS) (hi : s.i < c.toks.length) (q1 q4 : Nat) (n1 : q1 ≠ c.p) (n4 : q4 ≠ c.p) (l1 : q1 < h.next) (l4 : q4 < h.next) (o : Int)
    (o1 : h.obj q1 = some (.cells [.ptr c.p 0] 84)) (o4 : h.obj q4 = some (.cells [.lit (.int .i64 14), .lit (.int .i64 o), .lit (.string ⟨#[]⟩), .lit (.int .i64 0), .slc 0 0 []] 41))
    (m : Nd) (s2 : PS) (hs : pLevel f c { s with i := s.i + 1 } 6 = some (m, s2)) :
    XCalls e 124 [.ptr q1 0, .ptr q4 0] (c.at_ h s) (CPost c h q4 (.mk 14 o ⟨#[]⟩ 0 [m]) (outS s2)) := by
  refine XCalls.of Tryz.func124 rfl (by kernel_rfl) ?_
  rw [Tryz.ntmps124]
  have hw := wrap_succ (i := s.i) (by have := hc.len; omega)
  simp [-Int.natCast_add, n1, o1, hw]
  refine (h1 c h _ 6 m s2 hc hp hs).mono ?_
  rintro _ _ ⟨h2, hF, rfl, t, rfl, rfl⟩
  have o4' := (hF.obj q4 l4).trans o4
  simp [-Int.natCast_add, n4, o4']
  refine ⟨_, s2, rfl, rfl, h2.row 1, .mk 14 o ⟨#[]⟩ 0 h2.next [t], hF.trans (Fr.row _ _), ?_, ?_⟩
  · simp [TN.v, TN.vs]
  · simp [TN.nd, TN.nds]
theorem entS_i (c : PC) (s : PS) : (entS c s).i = s.i := by
  unfold entS wrongS
  split
  · split <;> rfl
  · rfl
theorem un_within (f : Nat) (h1 : CLevel f) (c : PC) (hc : c.ok) (h : H) (hp : c.p < h.next) (s : PS) (hi : s.i < c.toks.length) (q1 q4 : Nat) (n1 : q1 ≠ c.p) (n4 : q4 ≠ c.p) (l1 : q1 < h.next) (l4 : q4 < h.next) (o : Int)
    (o1 : h.obj q1 = some (.cells [.ptr c.p 0] 84)) (o4 : h.obj q4 = some (.cells [.lit (.int .i64 14), .lit (.int .i64 o), .lit (.string ⟨#[]⟩), .lit (.int .i64 0), .slc 0 0 []] 41))
    (nd : Nd) (s' : PS) (hs : pUn (f + 1) c s o = some (nd, s')) :
    XCalls e 123 [.ptr c.p 0, .fn 124 [.ptr q1 0, .ptr q4 0]] (c.at_ h s) (WPost c (TK h q4 nd s')) := by
  unfold pUn at hs
  have hei := entS_i c s
  refine within_calls c h s _ _ _ (fun he => ?_) (fun he => ?_)
  · simp [he] at hs
    split at hs
    case h_2 => cases hs
    rename_i m s2 hl
    simp only [Option.some.injEq, Prod.mk.injEq] at hs
    obtain ⟨rfl, rfl⟩ := hs
    refine (un1 f h1 c hc h hp { entS c s with deep := wr ((entS c s).deep + 1) } (by show (entS c s).i < _; rw [hei]; exact hi) q1 q4 n1 n4 l1 l4 o o1 o4 m s2 hl).mono ?_
    exact fun v h' hh => hh
  · simp [he] at hs
    obtain ⟨rfl, rfl⟩ := hs
    refine ⟨rfl, h, .leaf 14 o ⟨#[]⟩ 0, Fr.refl h, (H.put_self ?_).symm, rfl⟩
    rw [o4]; rfl
theorem new2 (h : H) (p : Nat) (hp : p < h.next) : (∀ o, p < (h.new o).next) ∧ (∀ o o', p < ((h.new o).new o').next) ∧ (∀ o o' o'', p < (((h.new o).new o').new o'').next) ∧ h.next ≠ p ∧ (∀ o, (h.new o).next ≠ p) ∧ (∀ o o', ((h.new o).new o').next ≠ p) :=
  ⟨fun o => Nat.lt_succ_of_lt hp, fun o o' => Nat.lt_succ_of_lt (Nat.lt_succ_of_lt hp), fun o o' o'' => Nat.lt_succ_of_lt (Nat.lt_succ_of_lt (Nat.lt_succ_of_lt hp)), Nat.ne_of_gt hp, fun o => Nat.ne_of_gt (Nat.lt_succ_of_lt hp), fun o o' => Nat.ne_of_gt (Nat.lt_succ_of_lt (Nat.lt_succ_of_lt hp))⟩
theorem new3 (h : H) : (∀ o, h.next < (h.new o).next) ∧ (∀ o o', h.next < ((h.new o).new o').next) ∧ (∀ o o', (h.new o).next < ((h.new o).new o').next) ∧ (∀ o, h.next ≠ (h.new o).next) ∧ (∀ o, (h.new o).next ≠ h.next) ∧ (∀ o o', h.next ≠ ((h.new o).new o').next) ∧ (∀ o o', (h.new o).next ≠ ((h.new o).new o').next) ∧ (∀ o o' o'', h.next < (((h.new o).new o').new o'').next) :=
  ⟨fun o => Nat.lt_succ_self _, fun o o' => Nat.lt_succ_of_lt (Nat.lt_succ_self _), fun o o' => Nat.lt_succ_self _, fun o => Nat.ne_of_lt (Nat.lt_succ_self _), fun o => Nat.ne_of_gt (Nat.lt_succ_self _), fun o o' => Nat.ne_of_lt (Nat.lt_succ_of_lt (Nat.lt_succ_self _)), fun o o' => Nat.ne_of_lt (Nat.lt_succ_self _), fun o o' o'' => Nat.lt_succ_of_lt (Nat.lt_succ_of_lt (Nat.lt_succ_self _))⟩
theorem unary_step (f : Nat) (h1 : ∀ m, m ≤ f → CLevel m) : CUnary (f + 1) := by
  intro c h s nd s' hc hp hs
  unfold pUnary at hs
  refine XCalls.of Tryz.func75 rfl (by kernel_rfl) ?_
  rw [Tryz.ntmps75]
  obtain ⟨a1, a2, a3, b1, b2, b3⟩ := new2 h c.p hp
  obtain ⟨d1, d2, d3, d4, d5, d6, d7, d8⟩ := new3 h
  simp [-Int.natCast_add, a1, a2, b1, b2, d1, d3, hp]
  refine (is_calls c _ s 6 _).mono ?_
  rintro _ _ ⟨rfl, rfl⟩
  cases g1 : isB c s 6 ⟨#[45]⟩
  · simp [g1] at hs
    simp [-Int.natCast_add, a1, a2, b1, b2, d1, d3, hp, g1]
    refine (is_calls c _ s 6 _).mono ?_
    rintro _ _ ⟨rfl, rfl⟩
    cases g2 : isB c s 6 ⟨#[33]⟩
    · simp [g2] at hs
      simp [-Int.natCast_add, a1, a2, b1, b2, d1, d3, hp, g2]
      refine (h1 f (Nat.le_refl f) c _ s 7 nd s' hc (a2 _ _) hs).mono ?_
      rintro _ _ ⟨h2, hF, rfl, t, rfl, rfl⟩
      have o2 := hF.obj _ (d3 _ _)
      rw [H.new_self] at o2
      simp [-Int.natCast_add, b2, o2]
      exact ⟨_, (((Fr.new _ _).trans (Fr.new _ _)).trans hF).put (Nat.le_of_lt (d1 _)) _, rfl, t, rfl, rfl⟩
    · simp [g2] at hs
      simp [-Int.natCast_add, a1, a2, a3, b1, b2, b3, d1, d2, d3, hp, g2, H.put_ne, d4, d5, d6, d7]
      cases f with
      | zero => unfold pUn at hs; cases hs
      | succ f =>
        refine (un_within f (h1 f (Nat.le_succ f)) c hc _ ?_ s (isB_lt g2) _ _ b1 (b3 _ _) ?_ ?_ 16 ?_ ?_ nd s' hs).mono ?_
        · exact a3 (.cells [] 0) (.cells [] 0) (.cells [] 0)
        · exact d8 (.cells [] 0) (.cells [] 0) (.cells [] 0)
        · exact Nat.lt_succ_self _
        · rw [H.put_ne _ _ (d6 _ _), H.new_ne _ _ (d2 _ _), H.new_ne _ _ (d1 _), H.new_self]
        · rw [H.put_same]
        rintro _ _ ⟨rfl, h5, s5, rfl, rfl, h2, T, hF, rfl, rfl⟩
        have o2 := hF.obj ((h.new (.cells [.ptr c.p 0] 84)).next) (Nat.lt_succ_of_lt (d3 _ _))
        rw [H.put_ne _ _ (d7 _ _), H.new_ne _ _ (d3 _ _), H.new_self] at o2
        simp [-Int.natCast_add, b1, b2, b3, d7, H.put_ne, o2]
        refine ⟨_, ((((((Fr.new _ _).trans (Fr.new _ _)).trans (Fr.new _ _)).put (Nat.le_of_lt (d2 _ _)) _).trans hF).put (Nat.le_of_lt (d2 _ _)) _).put (Nat.le_of_lt (d1 _)) _, rfl, T, rfl, rfl⟩
  · simp [g1] at hs
    simp [-Int.natCast_add, a1, a2, a3, b1, b2, b3, d1, d2, d3, hp, g1, H.put_ne, d4, d5, d6, d7]
    cases f with
    | zero => unfold pUn at hs; cases hs
    | succ f =>
      refine (un_within f (h1 f (Nat.le_succ f)) c hc _ ?_ s (isB_lt g1) _ _ b1 (b3 _ _) ?_ ?_ 15 ?_ ?_ nd s' hs).mono ?_
      · exact a3 (.cells [] 0) (.cells [] 0) (.cells [] 0)
      · exact d8 (.cells [] 0) (.cells [] 0) (.cells [] 0)
      · exact Nat.lt_succ_self _
      · rw [H.put_ne _ _ (d6 _ _), H.new_ne _ _ (d2 _ _), H.new_ne _ _ (d1 _), H.new_self]
      · rw [H.put_same]
      rintro _ _ ⟨rfl, h5, s5, rfl, rfl, h2, T, hF, rfl, rfl⟩
      have o2 := hF.obj ((h.new (.cells [.ptr c.p 0] 84)).next) (Nat.lt_succ_of_lt (d3 _ _))
      rw [H.put_ne _ _ (d7 _ _), H.new_ne _ _ (d3 _ _), H.new_self] at o2
      simp [-Int.natCast_add, b1, b2, b3, d7, H.put_ne, o2]
      refine ⟨_, ((((((Fr.new _ _).trans (Fr.new _ _)).trans (Fr.new _ _)).put (Nat.le_of_lt (d2 _ _)) _).trans hF).put (Nat.le_of_lt (d2 _ _)) _).put (Nat.le_of_lt (d1 _)) _, rfl, T, rfl, rfl⟩
end Go.Proofs.YtjofmihdeblbmaaGreatDoor.Xa

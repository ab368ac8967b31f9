/- XA, joined: XaS XaP XaQ. -/
import Derived.Test.YtjofmihdeblbmaaGreatDoorXaM17
/- XA, part S: the walk by simp: what is behind is not looked at ahead of time. -/
namespace Go.Proofs.YtjofmihdeblbmaaGreatDoor.Xa
open Go Go.RowKit
set_option linter.unusedVariables false
/-- What is behind: simp does not look into it (it stands as an instance). -/
class Hold (α : Type) where
  val : α
@[irreducible] def unhide {α : Type} [i : Hold α] : α := i.val
theorem unhide_eq {α : Type} (x : α) : @unhide α ⟨x⟩ = x := by unfold unhide; rfl
theorem hid2 {α β γ : Type} (f : α → β → γ) (a : α) (b : β) : @unhide _ ⟨f⟩ a b = f a b := by rw [unhide_eq]
theorem hid3 {α β γ δ : Type} (f : α → β → γ → δ) (a : α) (b : β) (c : γ) : @unhide _ ⟨f⟩ a b c = f a b c := by rw [unhide_eq]
theorem hid4 {α β γ δ : Type} (f : α → β → γ → δ) (a : α) (b : β) (c : γ) : @unhide _ ⟨(@unhide _ ⟨f⟩ a)⟩ b c = f a b c := by rw [unhide_eq, unhide_eq]
section
variable {E : Env} {Q : XE → List V → H → Prop} {fr : List V} {h : H}
theorem xcode_skip : xcode E .skip Q fr h = Q .normal fr h := by exact (_root_.id rfl)
theorem xcode_region (id : Nat) (ops : Array Oper) : xcode E (.region id ops false) Q fr h = xops E ops (annot [] ops.toList) fr h none (@unhide _ ⟨Q .normal⟩) := by simp only [unhide_eq]; exact (_root_.id rfl)
theorem xcode_draw (id : Nat) (ops : Array Oper) : xcode E (.region id ops true) Q fr h = XW E (.region id ops true) Q fr h := by exact (_root_.id rfl)
theorem xcode_loop (c : Code) : xcode E (.loop c) Q fr h = XW E (.loop c) Q fr h := by exact (_root_.id rfl)
theorem xcode_seq (a b : Code) : xcode E (.seq a b) Q fr h = xcode E a (@unhide _ ⟨seqQ (xcode E b Q) Q⟩) fr h := by simp only [unhide_eq]; exact (_root_.id rfl)
theorem xcode_cond (c : Operand) (a b : Code) : xcode E (.cond c a b) Q fr h = match ev fr c with
    | .lit (.bool t) => if t = true then xcode E a Q fr h else xcode E b Q fr h
    | _ => False := by exact (_root_.id rfl)
theorem xcode_block (id : Nat) (c : Code) : xcode E (.block id c) Q fr h = xcode E c (@unhide _ ⟨blockQ id Q⟩) fr h := by simp only [unhide_eq]; exact (_root_.id rfl)
theorem xcode_scope (c : Code) : xcode E (.scope c) Q fr h = XW E (.scope c) Q fr h := by exact (_root_.id rfl)
theorem xcode_exit (id : Nat) : xcode E (.exit id) Q fr h = Q (.exit id) fr h := by exact (_root_.id rfl)
theorem xcode_ret : xcode E .ret Q fr h = Q .ret fr h := by exact (_root_.id rfl)
theorem xops_nil {ops : Array Oper} {d : Option Debt} {K : List V → H → Prop} : xops E ops [] fr h d K = (d = none ∧ K fr h) := by exact (_root_.id rfl)
theorem xops_cons {ops : Array Oper} {x : XOp} {rest : List XOp} {d : Option Debt} {K : List V → H → Prop} : xops E ops (x :: rest) fr h d K = match xwant ops x.o fr with
    | some true => xstep E x fr h d (@unhide _ ⟨fun v h' d' => xops E ops rest (put fr x.o.dst v) h' d' K⟩)
    | some false => xops E ops rest (put fr x.o.dst (.tup [])) h d K
    | none => False := by simp only [unhide_eq]; exact (_root_.id rfl)
theorem xd_nil {ops : Array Oper} {B : List Nat} {pd : List Pend} {d : Option Debt} {K : List V → H → Prop} : xd E ops B [] fr h pd d K = (d = none ∧ K fr h) := by exact (_root_.id rfl)
theorem xd_cons {ops : Array Oper} {B : List Nat} {i : Nat} {x : XOp} {L : List (Nat × XOp)} {pd : List Pend} {d : Option Debt} {K : List V → H → Prop} : xd E ops B ((i, x) :: L) fr h pd d K = match xwant ops x.o fr with
    | some true => xstep E x fr h d (@unhide _ ⟨fun v h' d' => sideOk E x (B.getD i 0) h' pd ∧ xd E ops B L (put fr x.o.dst v) h' (pendOf x i fr v ++ pd) d' K⟩)
    | some false => xd E ops B L (put fr x.o.dst (.tup [])) h pd d K
    | none => False := by simp only [unhide_eq]; exact (_root_.id rfl)
/-- the walk's step, its next operations held -/
theorem xstep_eq {x : XOp} {d : Option Debt} {K : V → H → Option Debt → Prop} : xstep E x fr h d K = match kcls x with
  | .quiet => match qval E x fr h d with
    | some v => K v h d
    | none => False
  | .eff => match d with
    | none => xdo E x.o.op fr h (@unhide _ ⟨fun v h' => K v h' none⟩)
    | some dd => match x.o.op with
      | .store t a v => match xstore E t (ev fr a) (ev fr v) h with
        | some h' => K (.tup []) h' (some dd)
        | none => False
      | _ => False
  | .fill v => match d with
    | none => match xfillApp E x.o.op v fr h with
      | some (r, h', dd) => K r h' (some dd)
      | none => False
    | some _ => False
  | .pay => match d, x.o.op with
    | some (id, n, vs), .store t a v => ev fr a = .hole id ∧ (ev fr v).cells = vs ∧ (ev fr v).storable = true ∧ (E.T t).map (·.size) = some vs.length ∧ K (.tup []) h none
    | _, _ => False := by simp only [unhide_eq]; exact (_root_.id rfl)
end
theorem XW.loopH {E : Env} {Q : XE → List V → H → Prop} {fr : List V} {h : H} {c : Code} (J : Nat → List V → H → Prop) (n : Nat) (h0 : J n fr h)
    (round : ∀ n fr h, J n fr h → xcode E c (@unhide _ ⟨seqQ (fun fr' h' => ∃ m, m < n ∧ J m fr' h') Q⟩) fr h) : XW E (.loop c) Q fr h := XW.loop J n h0 (by simpa only [unhide_eq] using round)
theorem XW.drawH {E : Env} {ops : Array Oper} (hm : E.P.follows .mixedOrders = true) {id : Nat} {L : List Nat} {Q : XE → List V → H → Prop} {fr : List V} {h : H} (hs : drawOk ops L = true) (hx : xd E ops (clo ops L) (L.map (item ops)) fr h [] none (@unhide _ ⟨Q .normal⟩)) : XW E (.region id ops true) Q fr h := XW.draw hm hs (by simpa only [unhide_eq] using hx)
/-- the bits laid open -/
theorem XW.drawB {E : Env} {ops : Array Oper} (hm : E.P.follows .mixedOrders = true) {id : Nat} {L B : List Nat} {Q : XE → List V → H → Prop} {fr : List V} {h : H} (hs : drawOk ops L = true) (hB : clo ops L = B) (hx : xd E ops B (L.map (item ops)) fr h [] none (@unhide _ ⟨Q .normal⟩)) : XW E (.region id ops true) Q fr h := by
  subst hB
  exact XW.draw hm hs (by simpa only [unhide_eq] using hx)
@[congr] theorem xstep_cg {E : Env} {x : XOp} {K : V → H → Option Debt → Prop} {fr fr' : List V} {h h' : H} {d d' : Option Debt} (e1 : fr = fr') (e2 : h = h') (e3 : d = d') : xstep E x fr h d K = xstep E x fr' h' d' K := by rw [e1, e2, e3]
@[congr] theorem xdo_cg {E : Env} {op : Op} {K : V → H → Prop} {fr fr' : List V} {h h' : H} (e1 : fr = fr') (e2 : h = h') : xdo E op fr h K = xdo E op fr' h' K := by rw [e1, e2]
@[congr] theorem XCalls_cg {E : Env} {f : FuncId} {Q : V → H → Prop} {args args' : List V} {h h' : H} (e1 : args = args') (e2 : h = h') : XCalls E f args h Q = XCalls E f args' h' Q := by rw [e1, e2]
@[congr] theorem seqQ_cg {K : List V → H → Prop} {Q : XE → List V → H → Prop} {x x' : XE} {fr fr' : List V} {h h' : H} (e0 : x = x') (e1 : fr = fr') (e2 : h = h') : seqQ K Q x fr h = seqQ K Q x' fr' h' := by rw [e0, e1, e2]
@[congr] theorem blockQ_cg {i : Nat} {Q : XE → List V → H → Prop} {x x' : XE} {fr fr' : List V} {h h' : H} (e0 : x = x') (e1 : fr = fr') (e2 : h = h') : blockQ i Q x fr h = blockQ i Q x' fr' h' := by rw [e0, e1, e2]
@[congr] theorem retQ_cg {E : Env} {fn : Func} {Q : V → H → Prop} {x x' : XE} {fr fr' : List V} {h h' : H} (e0 : x = x') (e1 : fr = fr') (e2 : h = h') : retQ E fn Q x fr h = retQ E fn Q x' fr' h' := by rw [e0, e1, e2]
def undefs (n : Nat) : List V := List.replicate n (.tup [])
theorem undefs_len (n : Nat) : (undefs n).length = n := by simp [undefs]
theorem ev_const (fr : List V) (c : Value) : ev fr (.const c) = cv c := by exact (_root_.id rfl)
theorem ev_global (fr : List V) (g : Nat) : ev fr (.global g) = .lit (.pointer (some ⟨g, 0, none⟩)) := by exact (_root_.id rfl)
theorem ev_func (fr : List V) (f : FuncId) : ev fr (.func f) = .fn f [] := by exact (_root_.id rfl)
theorem ev_zero (v : V) (l : List V) : ev (v :: l) (.tmp 0) = v := by exact (_root_.id rfl)
theorem ev_succ (v : V) (l : List V) (t : Nat) : ev (v :: l) (.tmp (t + 1)) = ev l (.tmp t) := by exact (_root_.id rfl)
theorem ev_undefs (n t : Nat) : ev (undefs n) (.tmp t) = .tup [] := by
  simp only [ev, undefs, List.getD_eq_getElem?_getD, List.getElem?_replicate]
  split <;> rfl
theorem put_none (fr : List V) (v : V) : put fr none v = fr := by exact (_root_.id rfl)
theorem put_len (fr : List V) (d : Option Tmp) (v : V) : (put fr d v).length = fr.length := by cases d <;> simp [put]
theorem ev_hit {fr : List V} {d : Tmp} {v : V} (h : d < fr.length) : ev (put fr (some d) v) (.tmp d) = v := by
  simp [ev, put, h]
theorem ev_miss {fr : List V} {d t : Tmp} {v : V} (h : d ≠ t) : ev (put fr (some d) v) (.tmp t) = ev fr (.tmp t) := by
  simp [ev, put, List.getElem?_set_ne h]
theorem xres_tmp (E : Env) (fr : List V) (h : H) (t : Tmp) (r : List ResultVar) : xres E fr h (.tmp t :: r) = (xres E fr h r).map (ev fr (.tmp t) :: ·) := by exact (_root_.id rfl)
theorem xres_cell (E : Env) (fr : List V) (h : H) (a : Tmp) (t : TypeId) (r : List ResultVar) : xres E fr h (.cell a t :: r) = match xload E t (ev fr (.tmp a)) h, xres E fr h r with
    | some v, some l => some (v :: l)
    | _, _ => none := by exact (_root_.id rfl)
theorem xres_nil (E : Env) (fr : List V) (h : H) : xres E fr h [] = some [] := by exact (_root_.id rfl)
theorem XCalls.of {E : Env} {f : FuncId} {fn : Func} {c : Code} {args : List V} {h : H} {Q : V → H → Prop} (hf : E.P.funcs[f]? = some fn) (hb : fn.body = some c) (hn : (fn.name == "runtime.NumGoroutine") = false)
    (hx : xcode E c (@unhide _ ⟨retQ E fn Q⟩) (args ++ undefs (fn.ntmps - args.length)) h) : XCalls E f args h Q := XCalls.body hf hb hn (xcode_ok _ (by simpa only [unhide_eq, undefs] using hx))
end Go.Proofs.YtjofmihdeblbmaaGreatDoor.Xa
/- XA, part P: the parser's state, and its small functions. -/
namespace Go.Proofs.YtjofmihdeblbmaaGreatDoor.Xa
open Go Go.RowKit
set_option linter.unusedVariables false
set_option linter.unusedSimpArgs false
set_option maxRecDepth 100000
set_option maxHeartbeats 1000000
/-- what the package's variables hold -/
def Inv (W : World) : Prop :=
  (∃ m, W.cell? ⟨0, 0, none⟩ = some (.int .i64 m)) ∧ (∃ te pe, W.cell? ⟨4, 0, none⟩ = some (.iface te pe)) ∧ (∃ te pe, W.cell? ⟨5, 0, none⟩ = some (.iface te pe))
noncomputable def e : Env := { P := Tryz.prog, T := tyT, okT := tyT_ok, I := Inv }
theorem eT (t : Nat) : e.T t = tyT t := rfl
theorem emtb (t : Nat) : e.mtb t = false := rfl
/-- slices of these types are made as arrays that may be written -/
noncomputable def em (S : List Nat) : Env := { e with mtb := fun t => S.contains t }
theorem emT (S : List Nat) (t : Nat) : (em S).T t = tyT t := rfl
theorem emM (S : List Nat) (t : Nat) : (em S).mtb t = S.contains t := rfl
theorem xapp_em (S : List Nat) (t : TypeId) (s x : V) (h : H) : xappend (em S) t s x h = xappend e t s x h := by exact (_root_.id rfl)
theorem XCalls.toM {S : List Nat} {f : FuncId} {a : List V} {h : H} {Q : V → H → Prop} (c : XCalls e f a h Q) : XCalls (em S) f a h Q := c
theorem XCalls.ofM (S : List Nat) {f : FuncId} {a : List V} {h : H} {Q : V → H → Prop} (c : XCalls (em S) f a h Q) : XCalls e f a h Q := c
theorem H.put_same (h : H) (p : Nat) (o : Obj) : (h.put p o).obj p = some o := by simp [H.put]
theorem H.put_ne (h : H) {p q : Nat} (o : Obj) (hne : q ≠ p) : (h.put p o).obj q = h.obj q := by simp [H.put, hne]
theorem H.put_put (h : H) (p : Nat) (o o' : Obj) : (h.put p o).put p o' = h.put p o' := by
  unfold H.put
  congr 1
  funext i
  by_cases hi : i = p <;> simp [hi]
theorem H.put_self {h : H} {p : Nat} {o : Obj} (hp : h.obj p = some o) : h.put p o = h := by
  unfold H.put
  cases h
  congr 1
  funext i
  by_cases hi : i = p
  · subst hi; simp_all
  · simp [hi]
structure Tok where
  kind : Int
  text : ByteArray
  n : Int
  at_ : Int
instance : Inhabited Tok := ⟨⟨0, ⟨#[]⟩, 0, 0⟩⟩
def Tok.v (t : Tok) : List V := [.lit (.int .i64 t.kind), .lit (.string t.text), .lit (.int .i64 t.n), .lit (.int .i64 t.at_)]
structure PS where
  i : Nat
  deep : Int
  at_ : Int
  e : Int
structure PC where
  p : Nat
  tid : Nat
  toks : List Tok
  long : Int
def PC.obj (c : PC) (s : PS) : Obj := .cells [.slc c.tid 4 (c.toks.map Tok.v), .lit (.int .i64 (s.i : Int)), .lit (.int .i64 c.long), .lit (.int .i64 s.deep), .lit (.int .i64 s.at_), .lit (.int .i64 s.e)] 89
/-- the heap with the parser so -/
def PC.at_ (c : PC) (h : H) (s : PS) : H := h.put c.p (c.obj s)
theorem PC.at_obj (c : PC) (h : H) (s : PS) : (c.at_ h s).obj c.p = some (.cells [.slc c.tid 4 (c.toks.map Tok.v), .lit (.int .i64 (s.i : Int)), .lit (.int .i64 c.long), .lit (.int .i64 s.deep), .lit (.int .i64 s.at_), .lit (.int .i64 s.e)] 89) := H.put_same _ _ _
theorem PC.at_at (c : PC) (h : H) (s s' : PS) : c.at_ (c.at_ h s) s' = c.at_ h s' := H.put_put _ _ _ _
theorem PC.put_at (c : PC) (h : H) (s : PS) (o : Obj) : (c.at_ h s).put c.p o = h.put c.p o := H.put_put _ _ _ _
theorem PC.at_eq (c : PC) (h : H) (i : Nat) (d a ee : Int) : h.put c.p (.cells [.slc c.tid 4 (c.toks.map Tok.v), .lit (.int .i64 (i : Int)), .lit (.int .i64 c.long), .lit (.int .i64 d), .lit (.int .i64 a), .lit (.int .i64 ee)] 89) = c.at_ h ⟨i, d, a, ee⟩ := rfl
structure PC.ok (c : PC) : Prop where
  len : c.toks.length ≤ 1000000
theorem wrap_succ {i : Nat} (h : i < 1000000) : IntKind.i64.wrap ((i : Int) + 1) = ((i + 1 : Nat) : Int) := by
  have : (i : Int) < 1000000 := by omega
  simp [IntKind.wrap, IntKind.bits, IntKind.signed]
  omega

theorem byteLoop_eq (bs : ByteArray) : ∀ (n i : Nat) (r : List UInt8), bs.size - i = n → ByteArray.toList.loop bs i r = r.reverse ++ bs.data.toList.drop i
  | 0, i, r, h => by
    have hl : bs.data.toList.length = bs.size := rfl
    rw [ByteArray.toList.loop, if_neg (by omega), List.drop_of_length_le (by omega), List.append_nil]
  | n + 1, i, r, h => by
    have hl : bs.data.toList.length = bs.size := rfl
    have hi : i < bs.data.toList.length := by omega
    rw [ByteArray.toList.loop, if_pos (by omega), byteLoop_eq bs n (i + 1) _ (by omega), List.drop_eq_getElem_cons hi, List.reverse_cons, List.append_assoc, List.singleton_append]
    have : bs.get! i = bs.data.toList[i] := by
      show bs.data[i]! = _
      rw [getElem!_pos bs.data i (by simpa using hi)]; simp
    rw [this]
theorem bytes_list (bs : ByteArray) : bs.toList = bs.data.toList := by
  have := byteLoop_eq bs bs.size 0 [] rfl
  exact this
theorem beqL (a b : ByteArray) : (a.toList == b.toList) = (a.data.toList == b.data.toList) := by rw [bytes_list, bytes_list]
def isB (c : PC) (s : PS) (k : Int) (t : ByteArray) : Bool := (s.e == 0) && match c.toks[s.i]? with
  | some x => x.kind == k && x.text.data.toList == t.data.toList
  | none => false
theorem isB_old (c : PC) (s : PS) (k : Int) (t : ByteArray) : isB c s k t = ((s.e == 0) && match c.toks[s.i]? with
  | some x => x.kind == k && x.text.toList == t.toList
  | none => false) := by
  unfold isB
  simp only [bytes_list]
attribute [local simp] hid2 hid3 hid4 xcode_skip xcode_region xcode_draw xcode_loop xcode_seq xcode_cond xcode_block xcode_scope xcode_exit xcode_ret xops_nil xops_cons xd_nil xd_cons xstep_eq annot fillOf findFill findStore srcOf kcls cls qval qvalN xwant dstAt want1 xdo xop ev_const ev_global ev_func ev_zero ev_succ ev_undefs ev_hit ev_miss put_none put_len undefs_len xnil xfieldAddr fieldOf eT emtb seqQ blockQ xload xstore splice V.storable V.one V.cells mk xbinop xbin xun xbuiltin xindexAddr nilOr xindex xint cv cv1 retQ xres_tmp xres_cell xres_nil xresult xbuild xfill xbuildSlice xrows Nat.testBit places xfield item sideOk pendOk pendOf tyT1 tyT2 tyT3 tyT4 tyT5 tyT9 tyT22 tyT23 tyT24 tyT25 tyT26 tyT30 tyT34 tyT39 tyT41 tyT47 tyT48 tyT50 tyT53 tyT54 tyT56 tyT58 tyT63 tyT70 tyT76 tyT78 tyT80 tyT84 tyT87 tyT89 tyT96 tyT98 tyT100 tyT102 tyT108 tyT110 tyT112 tyT113 tyT115 tyT119 tyT121 tyT124 tyT138 tyT139 tyT141 tyT142 tyT143 tyT145 tyT147 tyT149 tyT155 tyT158 tyT164 tyT179 tyT186 tyT188 tyT189 tyT194 tyT197 tyT200 tyT216 tyT242 tyT245
theorem is_calls (c : PC) (h : H) (s : PS) (k : Int) (t : ByteArray) :
    XCalls e 122 [.ptr c.p 0, .lit (.int .i64 k), .lit (.string t)] (c.at_ h s) (fun v h' => v = .lit (.bool (isB c s k t)) ∧ h' = c.at_ h s) := by
  refine XCalls.of Tryz.func122 rfl (by kernel_rfl) ?_
  rw [Tryz.ntmps122]
  rw [isB_old]
  simp [-Int.natCast_add]
  refine XW.drawH mixed (L := List.range 48) (by kernel_rfl) ?_
  simp only [List.range, List.range.loop, List.map_cons, List.map_nil, item]
  simp only [annot, fillOf, findFill, findStore, srcOf, List.getD_cons_succ, List.getD_cons_zero]
  have hp := PC.at_obj c h s
  cases he : (s.e == 0)
  · simp [-Int.natCast_add, hp, he]
  · rcases Nat.lt_or_ge s.i c.toks.length with hi | hi
    · cases hk : (c.toks[s.i].kind == k)
      · simp [-Int.natCast_add, hp, he, ltB_t, hi, Tok.v, hk]
      · simp [-Int.natCast_add, hp, he, ltB_t, hi, Tok.v, hk]
    · simp [-Int.natCast_add, hp, he, ltB_f, hi]
def atOf (c : PC) (s : PS) : Int := match c.toks[s.i]? with
  | some x => x.at_
  | none => c.long
def wrongS (c : PC) (s : PS) (er : Int) : PS := if s.e == 0 then { s with e := er, at_ := atOf c s } else s
theorem wrong_calls (c : PC) (h : H) (s : PS) (er : Int) :
    XCalls e 42 [.ptr c.p 0, .lit (.int .i64 er)] (c.at_ h s) (fun v h' => v = .tup [] ∧ h' = c.at_ h (wrongS c s er)) := by
  refine XCalls.of Tryz.func42 rfl (by kernel_rfl) ?_
  rw [Tryz.ntmps42]
  unfold wrongS
  cases he : (s.e == 0)
  · simp [-Int.natCast_add, isM, bne, PC.at_obj, PC.put_at, PC.at_at, PC.at_eq, H.put_same, H.put_put, Tok.v, he]
  · simp [-Int.natCast_add, isM, bne, PC.at_obj, PC.put_at, PC.at_at, PC.at_eq, H.put_same, H.put_put, Tok.v, he]
    refine XW.drawH mixed (L := List.range 10) (by kernel_rfl) ?_
    simp only [List.range, List.range.loop, List.map_cons, List.map_nil, item]
    simp only [annot, fillOf, findFill, findStore, srcOf, List.getD_cons_succ, List.getD_cons_zero]
    rcases Nat.lt_or_ge s.i c.toks.length with hi | hi
    · simp [-Int.natCast_add, isM, bne, PC.at_obj, PC.put_at, PC.at_at, PC.at_eq, H.put_same, H.put_put, Tok.v, he, hi, ltB_t]
      refine XW.drawH mixed (L := List.range 15) (by kernel_rfl) ?_
      simp only [List.range, List.range.loop, List.map_cons, List.map_nil, item]
      simp only [annot, fillOf, findFill, findStore, srcOf, List.getD_cons_succ, List.getD_cons_zero]
      simp [-Int.natCast_add, isM, bne, PC.at_obj, PC.put_at, PC.at_at, PC.at_eq, H.put_same, H.put_put, Tok.v, he, hi, ltB_t, atOf]
    · simp [-Int.natCast_add, isM, bne, PC.at_obj, PC.put_at, PC.at_at, PC.at_eq, H.put_same, H.put_put, Tok.v, he, hi, ltB_f, atOf]
def opS (c : PC) (s : PS) (k : Int) (t : ByteArray) : PS := if isB c s k t then { s with i := s.i + 1 } else s
theorem isB_lt {c : PC} {s : PS} {k : Int} {t : ByteArray} (h : isB c s k t = true) : s.i < c.toks.length := by
  unfold isB at h
  simp only [Bool.and_eq_true] at h
  refine Classical.byContradiction fun hn => ?_
  rw [List.getElem?_eq_none (by omega)] at h
  simp at h
theorem op_calls (c : PC) (hc : c.ok) (h : H) (s : PS) (t : ByteArray) :
    XCalls e 98 [.ptr c.p 0, .lit (.string t)] (c.at_ h s) (fun v h' => v = .lit (.bool (isB c s 6 t)) ∧ h' = c.at_ h (opS c s 6 t)) := by
  refine XCalls.of Tryz.func98 rfl (by kernel_rfl) ?_
  rw [Tryz.ntmps98]
  simp [-Int.natCast_add, isM, bne, PC.at_obj, PC.put_at, PC.at_at, PC.at_eq, H.put_same, H.put_put, Tok.v]
  refine (is_calls c h s 6 t).mono ?_
  rintro _ _ ⟨rfl, rfl⟩
  unfold opS
  cases hb : isB c s 6 t
  · simp [-Int.natCast_add, isM, bne, PC.at_obj, PC.put_at, PC.at_at, PC.at_eq, H.put_same, H.put_put, Tok.v]
  · have hi := isB_lt hb
    have hw := wrap_succ (i := s.i) (by have := hc.len; omega)
    simp [-Int.natCast_add, isM, bne, PC.at_obj, PC.put_at, PC.at_at, PC.at_eq, H.put_same, H.put_put, Tok.v, hw]
theorem word_calls (c : PC) (hc : c.ok) (h : H) (s : PS) (t : ByteArray) :
    XCalls e 95 [.ptr c.p 0, .lit (.string t)] (c.at_ h s) (fun v h' => v = .lit (.bool (isB c s 2 t)) ∧ h' = c.at_ h (opS c s 2 t)) := by
  refine XCalls.of Tryz.func95 rfl (by kernel_rfl) ?_
  rw [Tryz.ntmps95]
  simp [-Int.natCast_add, isM, bne, PC.at_obj, PC.put_at, PC.at_at, PC.at_eq, H.put_same, H.put_put, Tok.v]
  refine (is_calls c h s 2 t).mono ?_
  rintro _ _ ⟨rfl, rfl⟩
  unfold opS
  cases hb : isB c s 2 t
  · simp [-Int.natCast_add, isM, bne, PC.at_obj, PC.put_at, PC.at_at, PC.at_eq, H.put_same, H.put_put, Tok.v]
  · have hi := isB_lt hb
    have hw := wrap_succ (i := s.i) (by have := hc.len; omega)
    simp [-Int.natCast_add, isM, bne, PC.at_obj, PC.put_at, PC.at_at, PC.at_eq, H.put_same, H.put_put, Tok.v, hw]
def wantS (c : PC) (s : PS) (t : ByteArray) : PS := if isB c s 6 t then opS c s 6 t else wrongS c s 10
theorem want_calls (c : PC) (hc : c.ok) (h : H) (s : PS) (t : ByteArray) :
    XCalls e 97 [.ptr c.p 0, .lit (.string t)] (c.at_ h s) (fun v h' => v = .tup [] ∧ h' = c.at_ h (wantS c s t)) := by
  refine XCalls.of Tryz.func97 rfl (by kernel_rfl) ?_
  rw [Tryz.ntmps97]
  simp [-Int.natCast_add, isM, bne, PC.at_obj, PC.put_at, PC.at_at, PC.at_eq, H.put_same, H.put_put, Tok.v]
  refine (op_calls c hc h s t).mono ?_
  rintro _ _ ⟨rfl, rfl⟩
  unfold wantS
  cases hb : isB c s 6 t
  · simp [-Int.natCast_add, isM, bne, PC.at_obj, PC.put_at, PC.at_at, PC.at_eq, H.put_same, H.put_put, Tok.v, opS, hb]
    refine (wrong_calls c h s 10).mono ?_
    rintro _ _ ⟨rfl, rfl⟩
    simp [-Int.natCast_add, isM, bne, PC.at_obj, PC.put_at, PC.at_at, PC.at_eq, H.put_same, H.put_put, Tok.v]
  · simp [-Int.natCast_add, isM, bne, PC.at_obj, PC.put_at, PC.at_at, PC.at_eq, H.put_same, H.put_put, Tok.v]
def kindOf (c : PC) (s : PS) : Int := if s.e == 0 then match c.toks[s.i]? with
  | some x => x.kind
  | none => 0 else 0
theorem kind_calls (c : PC) (h : H) (s : PS) :
    XCalls e 146 [.ptr c.p 0] (c.at_ h s) (fun v h' => v = .lit (.int .i64 (kindOf c s)) ∧ h' = c.at_ h s) := by
  refine XCalls.of Tryz.func146 rfl (by kernel_rfl) ?_
  rw [Tryz.ntmps146]
  simp [-Int.natCast_add, isM, bne, PC.at_obj, PC.put_at, PC.at_at, PC.at_eq, H.put_same, H.put_put, Tok.v]
  refine XW.drawH mixed (L := List.range 17) (by kernel_rfl) ?_
  simp only [List.range, List.range.loop, List.map_cons, List.map_nil, item]
  simp only [annot, fillOf, findFill, findStore, srcOf, List.getD_cons_succ, List.getD_cons_zero]
  unfold kindOf
  cases he : (s.e == 0)
  · simp [-Int.natCast_add, isM, bne, PC.at_obj, PC.put_at, PC.at_at, PC.at_eq, H.put_same, H.put_put, Tok.v, he]
  · rcases Nat.lt_or_ge s.i c.toks.length with hi | hi
    · simp [-Int.natCast_add, isM, bne, PC.at_obj, PC.put_at, PC.at_at, PC.at_eq, H.put_same, H.put_put, Tok.v, he, leB_f, hi]
      refine XW.drawH mixed (L := List.range 12) (by kernel_rfl) ?_
      simp only [List.range, List.range.loop, List.map_cons, List.map_nil, item]
      simp only [annot, fillOf, findFill, findStore, srcOf, List.getD_cons_succ, List.getD_cons_zero]
      simp [-Int.natCast_add, isM, bne, PC.at_obj, PC.put_at, PC.at_at, PC.at_eq, H.put_same, H.put_put, Tok.v, he, leB_f, hi]
    · simp [-Int.natCast_add, isM, bne, PC.at_obj, PC.put_at, PC.at_at, PC.at_eq, H.put_same, H.put_put, Tok.v, he, leB_t, hi]
def nameS (c : PC) (s : PS) : PS := if kindOf c s == 1 then { s with i := s.i + 1 } else wrongS c s 10
def nameV (c : PC) (s : PS) : ByteArray := if kindOf c s == 1 then (match c.toks[s.i]? with | some x => x.text | none => ⟨#[]⟩) else ⟨#[]⟩
theorem kind_lt {c : PC} {s : PS} (h : kindOf c s ≠ 0) : s.i < c.toks.length := by
  refine Classical.byContradiction fun hn => h ?_
  unfold kindOf
  rw [List.getElem?_eq_none (by omega)]
  simp
theorem wrap_pred {i : Nat} (h : i < 1000000) : IntKind.i64.wrap (((i + 1 : Nat) : Int) - 1) = (i : Int) := by
  have : (i : Int) < 1000000 := by omega
  simp [IntKind.wrap, IntKind.bits, IntKind.signed]
  omega
theorem name_calls (c : PC) (hc : c.ok) (h : H) (s : PS) :
    XCalls e 96 [.ptr c.p 0] (c.at_ h s) (fun v h' => v = .lit (.string (nameV c s)) ∧ h' = c.at_ h (nameS c s)) := by
  refine XCalls.of Tryz.func96 rfl (by kernel_rfl) ?_
  rw [Tryz.ntmps96]
  simp [-Int.natCast_add, isM, bne, PC.at_obj, PC.put_at, PC.at_at, PC.at_eq, H.put_same, H.put_put, Tok.v]
  refine (kind_calls c h s).mono ?_
  rintro _ _ ⟨rfl, rfl⟩
  unfold nameS nameV
  cases hk : (kindOf c s == 1)
  · simp [-Int.natCast_add, isM, bne, PC.at_obj, PC.put_at, PC.at_at, PC.at_eq, H.put_same, H.put_put, Tok.v, hk]
    refine (wrong_calls c h s 10).mono ?_
    rintro _ _ ⟨rfl, rfl⟩
    simp [-Int.natCast_add, isM, bne, PC.at_obj, PC.put_at, PC.at_at, PC.at_eq, H.put_same, H.put_put, Tok.v]
  · have hi := kind_lt (c := c) (s := s) (by intro h0; rw [h0] at hk; cases hk)
    have hw := wrap_succ (i := s.i) (by have := hc.len; omega)
    have hw2 := wrap_pred (i := s.i) (by have := hc.len; omega)
    simp [-Int.natCast_add, isM, bne, PC.at_obj, PC.put_at, PC.at_at, PC.at_eq, H.put_same, H.put_put, Tok.v, hk, hw]
    refine XW.drawH mixed (L := List.range 13) (by kernel_rfl) ?_
    simp only [List.range, List.range.loop, List.map_cons, List.map_nil, item]
    simp only [annot, fillOf, findFill, findStore, srcOf, List.getD_cons_succ, List.getD_cons_zero]
    simp [-Int.natCast_add, isM, bne, PC.at_obj, PC.put_at, PC.at_at, PC.at_eq, H.put_same, H.put_put, Tok.v, hk, hw2, hi]
end Go.Proofs.YtjofmihdeblbmaaGreatDoor.Xa
/- XA, part Q: what the parser tells, as plain functions (with fuel). -/
namespace Go.Proofs.YtjofmihdeblbmaaGreatDoor.Xa
open Go Go.RowKit
set_option linter.unusedVariables false

inductive Nd where
  | mk (kind op : Int) (s : ByteArray) (n : Int) (l : List Nd)
instance : Inhabited Nd := ⟨.mk 0 0 ⟨#[]⟩ 0 []⟩
def nd0 : Nd := .mk 0 0 ⟨#[]⟩ 0 []
def wr (n : Int) : Int := IntKind.i64.wrap n
def binsOf (level : Int) : List (ByteArray × Int) :=
  if level == 3 then [(⟨#[61, 61]⟩, 6), (⟨#[33, 61]⟩, 7), (⟨#[60]⟩, 8), (⟨#[60, 61]⟩, 9), (⟨#[62]⟩, 10), (⟨#[62, 61]⟩, 11)]
  else if level == 4 then [(⟨#[43]⟩, 1), (⟨#[45]⟩, 2)]
  else if level == 5 then [(⟨#[42]⟩, 3), (⟨#[47]⟩, 4), (⟨#[37]⟩, 5)]
  else []
def findL (c : PC) (s : PS) : List (ByteArray × Int) → Int × PS
  | [] => (0, s)
  | b :: r => if isB c s 6 b.1 then (b.2, opS c s 6 b.1) else findL c s r
def findS (c : PC) (s : PS) (level : Int) : Int × PS := findL c s (binsOf level)
def entS (c : PC) (s : PS) : PS := if leB 24 s.deep then wrongS c s 21 else s
def inS (s : PS) (k : Nat) : PS := { s with deep := wr (s.deep + 1), i := s.i + k }
def outS (s : PS) : PS := { s with deep := wr (s.deep - 1) }
def textAt (c : PC) (i : Nat) : ByteArray := match c.toks[i]? with | some x => x.text | none => ⟨#[]⟩
def numAt (c : PC) (i : Nat) : Int := match c.toks[i]? with | some x => x.n | none => 0
def calls1 (c : PC) (s : PS) : Bool := match c.toks[s.i + 1]? with
  | some x => x.kind == 6 && x.text.data.toList == [40]
  | none => false
theorem calls1_old (c : PC) (s : PS) : calls1 c s = (match c.toks[s.i + 1]? with
  | some x => x.kind == 6 && x.text.toList == (⟨#[40]⟩ : ByteArray).toList
  | none => false) := by
  unfold calls1
  simp only [bytes_list]
mutual
def pLevel : Nat → PC → PS → Int → Option (Nd × PS)
  | 0, _, _, _ => none
  | f + 1, c, s, n => if !(s.e == 0) then some (nd0, s) else if leB n 2 then pLogic f c s n else if ltB n 6 then pRow f c s n else if n == 6 then pUnary f c s else pIndex f c s
def pLogic : Nat → PC → PS → Int → Option (Nd × PS)
  | 0, _, _, _ => none
  | f + 1, c, s, n => match pLevel f c s (wr (n + 1)) with
    | some (nd, s1) => if n == 2 then pLogicL f c s1 ⟨#[38, 38]⟩ 12 n nd else pLogicL f c s1 ⟨#[124, 124]⟩ 13 n nd
    | none => none
def pLogicL : Nat → PC → PS → ByteArray → Int → Int → Nd → Option (Nd × PS)
  | 0, _, _, _, _, _, _ => none
  | f + 1, c, s, t, k, n, nd => if isB c s 6 t then match pLevel f c (opS c s 6 t) (wr (n + 1)) with
      | some (m, s2) => pLogicL f c s2 t k n (.mk k 0 ⟨#[]⟩ 0 [nd, m])
      | none => none
    else some (nd, s)
def pRow : Nat → PC → PS → Int → Option (Nd × PS)
  | 0, _, _, _ => none
  | f + 1, c, s, n => match pLevel f c s (wr (n + 1)) with
    | some (nd, s1) => pRowL f c (findS c s1 n).2 n (findS c s1 n).1 nd
    | none => none
def pRowL : Nat → PC → PS → Int → Int → Nd → Option (Nd × PS)
  | 0, _, _, _, _, _ => none
  | f + 1, c, s, n, o, nd => if o == 0 then some (nd, s) else match pLevel f c s (wr (n + 1)) with
    | some (m, s2) => if n == 3 then some (.mk 11 o ⟨#[]⟩ 0 [nd, m], s2) else pRowL f c (findS c s2 n).2 n (findS c s2 n).1 (.mk 11 o ⟨#[]⟩ 0 [nd, m])
    | none => none
def pUnary : Nat → PC → PS → Option (Nd × PS)
  | 0, _, _ => none
  | f + 1, c, s => if isB c s 6 ⟨#[45]⟩ then pUn f c s 15 else if isB c s 6 ⟨#[33]⟩ then pUn f c s 16 else pLevel f c s 7
def pUn : Nat → PC → PS → Int → Option (Nd × PS)
  | 0, _, _, _ => none
  | f + 1, c, s, o => if (entS c s).e == 0 then match pLevel f c (inS (entS c s) 1) 6 with
      | some (m, s2) => some (.mk 14 o ⟨#[]⟩ 0 [m], outS s2)
      | none => none
    else some (.mk 14 o ⟨#[]⟩ 0 [], entS c s)
def pIndex : Nat → PC → PS → Option (Nd × PS)
  | 0, _, _ => none
  | f + 1, c, s => match pPlain f c s with
    | some (nd, s1) => pIndexL f c s1 nd
    | none => none
def pIndexL : Nat → PC → PS → Nd → Option (Nd × PS)
  | 0, _, _, _ => none
  | f + 1, c, s, nd => if isB c s 6 ⟨#[91]⟩ then
      if (entS c s).e == 0 then match pLevel f c (inS (entS c s) 1) 1 with
        | some (m, s2) => pIndexL f c (outS (wantS c s2 ⟨#[93]⟩)) (.mk 11 12 ⟨#[]⟩ 0 [nd, m])
        | none => none
      else pIndexL f c (entS c s) nd
    else some (nd, s)
def pList : Nat → PC → PS → ByteArray → Option (List Nd × PS)
  | 0, _, _, _ => none
  | f + 1, c, s, t => if isB c s 6 t then some ([], opS c s 6 t) else pListL f c s t true []
def pListL : Nat → PC → PS → ByteArray → Bool → List Nd → Option (List Nd × PS)
  | 0, _, _, _, _, _ => none
  | f + 1, c, s, t, more, acc => if more && s.e == 0 then match pLevel f c s 1 with
      | some (m, s1) => pListL f c (opS c s1 6 ⟨#[44]⟩) t (isB c s1 6 ⟨#[44]⟩) (acc ++ [m])
      | none => none
    else some (acc, wantS c s t)
def pPlain : Nat → PC → PS → Option (Nd × PS)
  | 0, _, _ => none
  | f + 1, c, s =>
    if kindOf c s == 3 then some (.mk 15 0 ⟨#[]⟩ (numAt c s.i) [], { s with i := s.i + 1 })
    else if kindOf c s == 4 then some (.mk 16 0 ⟨#[]⟩ (numAt c s.i) [], { s with i := s.i + 1 })
    else if kindOf c s == 5 then some (.mk 17 0 (textAt c s.i) 0 [], { s with i := s.i + 1 })
    else if kindOf c s == 1 then pNamed f c s
    else pOther f c s
def pNamed : Nat → PC → PS → Option (Nd × PS)
  | 0, _, _ => none
  | f + 1, c, s => if calls1 c s then
      if (entS c s).e == 0 then match pList f c (inS (entS c s) 2) ⟨#[41]⟩ with
        | some (l, s2) => some (.mk 20 0 (textAt c s.i) 0 l, outS s2)
        | none => none
      else some (.mk 20 0 (textAt c s.i) 0 [], entS c s)
    else some (.mk 19 0 (textAt c s.i) 0 [], { s with i := s.i + 1 })
def pOther : Nat → PC → PS → Option (Nd × PS)
  | 0, _, _ => none
  | f + 1, c, s => if isB c s 2 ⟨#[110, 105, 108]⟩ then some (.mk 18 0 ⟨#[]⟩ 0 [], opS c s 2 ⟨#[110, 105, 108]⟩)
    else if isB c s 6 ⟨#[91]⟩ then
      if (entS c s).e == 0 then match pList f c (inS (entS c s) 1) ⟨#[93]⟩ with
        | some (l, s2) => some (.mk 21 0 ⟨#[]⟩ 0 l, outS s2)
        | none => none
      else some (.mk 21 0 ⟨#[]⟩ 0 [], entS c s)
    else if isB c s 6 ⟨#[40]⟩ then
      if (entS c s).e == 0 then match pLevel f c (inS (entS c s) 1) 1 with
        | some (m, s2) => some (m, outS (wantS c s2 ⟨#[41]⟩))
        | none => none
      else some (.mk 18 0 ⟨#[]⟩ 0 [], entS c s)
    else some (.mk 18 0 ⟨#[]⟩ 0 [], wrongS c s 10)
end
end Go.Proofs.YtjofmihdeblbmaaGreatDoor.Xa

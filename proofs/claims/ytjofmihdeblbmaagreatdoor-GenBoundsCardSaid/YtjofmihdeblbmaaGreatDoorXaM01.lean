/- XA, joined: XaA. -/
import Derived.Orders
import Derived.Below
import Derived.Deep.Draws
/- XA, part A: abstract values, what they say of the memory, and how the memory may move. Over any program. -/
namespace Go.Proofs.YtjofmihdeblbmaaGreatDoor.Xa
open Go Go.RowKit
set_option linter.unusedVariables false
set_option linter.unusedSimpArgs false

/-- An abstract value. A slice is its elements (each a list of cells), with a number that bears the right to append. -/
inductive V where
  | lit (c : Value)
  | agg (cs : List V)
  | tup (vs : List V)
  | slc (id sz : Nat) (xs : List (List V))
  | ptr (id off : Nat)
  | rp (cells : List V) (off : Nat)
  | fn (f : FuncId) (caps : List V)
  | map (id : Nat)
  | hole (id : Nat)      -- the place of an element that is appended and still to be stored
  | src (sz : Nat)       -- a row of one element that is only appended
  | msl (id off n sz : Nat)   -- a slice over an array of the call's own: its elements stand in the heap
  | eptr (id i off : Nat)     -- into such an array's element
  deriving Inhabited

/-- it is one cell -/
def V.one : V → Bool
  | .lit (.agg _) => false
  | .lit (.tuple _) => false
  | .agg _ => false
  | .tup _ => false
  | .rp _ _ => false
  | .hole _ => false
  | .src _ => false
  | _ => true
def V.cells : V → List V
  | .agg cs => cs
  | v => [v]
def one (c : Value) : Bool := match c with | .agg _ => false | .tuple _ => false | _ => true

inductive Obj where
  | cells (cs : List V) (e : TypeId)
  | map (kt vt : TypeId) (kv : List (Value × V))

/-- an array that may be written -/
structure Arr where
  rows : List (List V)
  sz : Nat
  e : TypeId
/-- The abstract heap. -/
structure H where
  next : Nat
  obj : Nat → Option Obj
  ext : Nat → Option Nat
  arr : Nat → Option Arr

structure Row where
  b : Nat
  off : Nat
  cap : Nat
  e : TypeId
  sz : Nat

structure Blk where
  b : Nat
  o : Nat
  cap : Nat
  sz : Nat
/-- How the abstract lies in the memory. -/
structure Kp where
  w0 : World
  next : Nat
  obj : Nat → Option Nat
  row : Nat → Option Row
  rt : Nat → Option (List Value)
  hole : Nat → Option (Nat × Nat)
  arr : Nat → Option Blk

def rtAt (κ : Kp) (b o : Nat) (ccs : List Value) : Prop := ∃ l, κ.rt b = some l ∧ ccs <+: l.drop o

mutual
inductive VRel (κ : Kp) : V → Value → Prop
  | lit (c : Value) : VRel κ (.lit c) c
  | agg {cs : List V} {ccs : List Value} (h : VRels κ cs ccs) (h1 : ∀ c ∈ cs, c.one = true) : VRel κ (.agg cs) (.agg ccs.toArray)
  | tup {vs : List V} {cvs : List Value} (h : VRels κ vs cvs) : VRel κ (.tup vs) (.tuple cvs.toArray)
  | nil (sz : Nat) : VRel κ (.slc 0 sz []) (.slice none 0 0)
  | slc {id sz : Nat} {xs : List (List V)} {b o c : Nat} {css : List (List Value)} (h : VRowss κ xs css) (hsz : ∀ x ∈ xs, x.length = sz) (h1 : ∀ x ∈ xs, ∀ v ∈ x, v.one = true)
      (hc : xs.length ≤ c) (hr : rtAt κ b o css.flatten) (hid : 0 < id ∧ id < κ.next) (hrow : ∃ r, κ.row id = some r ∧ r.b = b ∧ r.off = o ∧ r.cap = c ∧ r.sz = sz) : VRel κ (.slc id sz xs) (.slice (some ⟨b, o, none⟩) xs.length c)
  | ptr {id b : Nat} (off : Nat) (h : κ.obj id = some b) : VRel κ (.ptr id off) (.pointer (some ⟨b, off, none⟩))
  | rp {cells : List V} {ccs : List Value} {b o : Nat} (off : Nat) (h : VRels κ cells ccs) (h1 : ∀ c ∈ cells, c.one = true) (hr : rtAt κ b o ccs) : VRel κ (.rp cells off) (.pointer (some ⟨b, o + off, none⟩))
  | fn (f : FuncId) {caps : List V} {cc : List Value} (h : VRels κ caps cc) (h1 : ∀ c ∈ caps, c.one = true) : VRel κ (.fn f caps) (.func (.func f) #[] cc.toArray)
  | map {id b : Nat} (h : κ.obj id = some b) : VRel κ (.map id) (.map (some b))
  | hole {id b o : Nat} (h : κ.hole id = some (b, o)) : VRel κ (.hole id) (.pointer (some ⟨b, o, none⟩))
  | src {sz b : Nat} {l : List Value} (h : rtAt κ b 0 l) (hl : l.length = sz) (h1 : ∀ c ∈ l, c.oneCell' = true) : VRel κ (.src sz) (.slice (some ⟨b, 0, none⟩) 1 1)
  | msl {id off n c sz : Nat} {k : Blk} (h : κ.arr id = some k) (hs : k.sz = sz) (hc : off + c = k.cap) (hn : n ≤ c) : VRel κ (.msl id off n sz) (.slice (some ⟨k.b, k.o + off * sz, none⟩) n c)
  | eptr {id i off : Nat} {k : Blk} (h : κ.arr id = some k) : VRel κ (.eptr id i off) (.pointer (some ⟨k.b, k.o + i * k.sz + off, none⟩))
inductive VRels (κ : Kp) : List V → List Value → Prop
  | nil : VRels κ [] []
  | cons {v : V} {c : Value} {vs : List V} {cs : List Value} (h : VRel κ v c) (ht : VRels κ vs cs) : VRels κ (v :: vs) (c :: cs)
inductive VRowss (κ : Kp) : List (List V) → List (List Value) → Prop
  | nil : VRowss κ [] []
  | cons {x : List V} {c : List Value} {xs : List (List V)} {cs : List (List Value)} (h : VRels κ x c) (ht : VRowss κ xs cs) : VRowss κ (x :: xs) (c :: cs)
end

structure Kp.le (κ κ' : Kp) : Prop where
  w0 : κ'.w0 = κ.w0
  next : κ.next ≤ κ'.next
  obj : ∀ id b, κ.obj id = some b → κ'.obj id = some b
  row : ∀ id, id < κ.next → κ'.row id = κ.row id
  rt : ∀ b l, κ.rt b = some l → ∃ l', κ'.rt b = some l' ∧ l <+: l'
  hole : ∀ id x, κ.hole id = some x → κ'.hole id = some x
  arr : ∀ id x, κ.arr id = some x → κ'.arr id = some x

theorem Kp.le.refl (κ : Kp) : κ.le κ := ⟨rfl, Nat.le_refl _, fun _ _ h => h, fun _ _ => rfl, fun _ l h => ⟨l, h, List.prefix_refl l⟩, fun _ _ h => h, fun _ _ h => h⟩
theorem Kp.le.trans {a b c : Kp} (h : a.le b) (k : b.le c) : a.le c where
  w0 := k.w0.trans h.w0
  next := Nat.le_trans h.next k.next
  obj := fun id x hx => k.obj id x (h.obj id x hx)
  row := fun id hx => (k.row id (Nat.lt_of_lt_of_le hx h.next)).trans (h.row id hx)
  rt := fun x l hx => by
    obtain ⟨l', h1, h2⟩ := h.rt x l hx
    obtain ⟨l'', h3, h4⟩ := k.rt x l' h1
    exact ⟨l'', h3, h2.trans h4⟩
  hole := fun id x hx => k.hole id x (h.hole id x hx)
  arr := fun id x hx => k.arr id x (h.arr id x hx)

theorem prefix_drop {α : Type} {l l' : List α} (h : l <+: l') (n : Nat) : l.drop n <+: l'.drop n := by
  obtain ⟨t, rfl⟩ := h
  rw [List.drop_append]
  exact List.prefix_append _ _
theorem rtAt.mono {κ κ' : Kp} (h : κ.le κ') {b o : Nat} {ccs : List Value} (hr : rtAt κ b o ccs) : rtAt κ' b o ccs := by
  obtain ⟨l, h1, h2⟩ := hr
  obtain ⟨l', h3, h4⟩ := h.rt b l h1
  exact ⟨l', h3, h2.trans (prefix_drop h4 o)⟩

mutual
theorem VRel.mono {κ κ' : Kp} (hk : κ.le κ') : ∀ {v : V} {c : Value}, VRel κ v c → VRel κ' v c
  | _, _, .lit c => .lit c
  | _, _, .agg h h1 => .agg (VRels.mono hk h) h1
  | _, _, .tup h => .tup (VRels.mono hk h)
  | _, _, .nil sz => .nil sz
  | _, _, .slc h hsz h1 hc hr hid hrow => .slc (VRowss.mono hk h) hsz h1 hc (hr.mono hk) ⟨hid.1, Nat.lt_of_lt_of_le hid.2 hk.next⟩ (by obtain ⟨r, h1, h2⟩ := hrow; exact ⟨r, (hk.row _ hid.2).trans h1, h2⟩)
  | _, _, .ptr off h => .ptr off (hk.obj _ _ h)
  | _, _, .rp off h h1 hr => .rp off (VRels.mono hk h) h1 (hr.mono hk)
  | _, _, .fn f h h1 => .fn f (VRels.mono hk h) h1
  | _, _, .map h => .map (hk.obj _ _ h)
  | _, _, .hole h => .hole (hk.hole _ _ h)
  | _, _, .src h hl h1 => .src (h.mono hk) hl h1
  | _, _, .msl h hs hc hn => .msl (hk.arr _ _ h) hs hc hn
  | _, _, .eptr h => .eptr (hk.arr _ _ h)
theorem VRels.mono {κ κ' : Kp} (hk : κ.le κ') : ∀ {vs : List V} {cs : List Value}, VRels κ vs cs → VRels κ' vs cs
  | _, _, .nil => .nil
  | _, _, .cons h ht => .cons (VRel.mono hk h) (VRels.mono hk ht)
theorem VRowss.mono {κ κ' : Kp} (hk : κ.le κ') : ∀ {vs : List (List V)} {cs : List (List Value)}, VRowss κ vs cs → VRowss κ' vs cs
  | _, _, .nil => .nil
  | _, _, .cons h ht => .cons (VRels.mono hk h) (VRowss.mono hk ht)
end

section
variable {κ : Kp}
theorem VRels.length {vs : List V} {cs : List Value} (h : VRels κ vs cs) : vs.length = cs.length := by
  induction vs generalizing cs with
  | nil => cases h; rfl
  | cons v vs ih => cases h with | cons h ht => simp [ih ht]
theorem VRowss.length {vs : List (List V)} {cs : List (List Value)} (h : VRowss κ vs cs) : vs.length = cs.length := by
  induction vs generalizing cs with
  | nil => cases h; rfl
  | cons v vs ih => cases h with | cons h ht => simp [ih ht]
theorem VRels.get {vs : List V} {cs : List Value} (h : VRels κ vs cs) {i : Nat} {v : V} (hv : vs[i]? = some v) : ∃ c, cs[i]? = some c ∧ VRel κ v c := by
  induction vs generalizing cs i with
  | nil => simp at hv
  | cons a vs ih =>
    cases h with
    | cons h ht =>
      cases i with
      | zero => simp at hv; subst hv; exact ⟨_, rfl, h⟩
      | succ i => simpa using ih ht (by simpa using hv)
theorem VRels.getD {vs : List V} {cs : List Value} (h : VRels κ vs cs) (i : Nat) : VRel κ (vs.getD i (.tup [])) (cs.getD i undef) := by
  induction vs generalizing cs i with
  | nil => cases h; exact .tup .nil
  | cons a vs ih =>
    cases h with
    | cons h ht =>
      cases i with
      | zero => exact h
      | succ i => exact ih ht i
theorem VRels.set {vs : List V} {cs : List Value} (h : VRels κ vs cs) {v : V} {c : Value} (hv : VRel κ v c) (i : Nat) : VRels κ (vs.set i v) (cs.set i c) := by
  induction vs generalizing cs i with
  | nil => cases h; exact .nil
  | cons a vs ih =>
    cases h with
    | cons h ht =>
      cases i with
      | zero => exact .cons hv ht
      | succ i => exact .cons h (ih ht i)
theorem VRels.append {vs us : List V} {cs ds : List Value} (h : VRels κ vs cs) (k : VRels κ us ds) : VRels κ (vs ++ us) (cs ++ ds) := by
  induction vs generalizing cs with
  | nil => cases h; exact k
  | cons a vs ih => cases h with | cons h ht => exact .cons h (ih ht)
theorem VRels.take {vs : List V} {cs : List Value} (h : VRels κ vs cs) (n : Nat) : VRels κ (vs.take n) (cs.take n) := by
  induction vs generalizing cs n with
  | nil => cases h; simpa using VRels.nil
  | cons a vs ih =>
    cases h with
    | cons h ht =>
      cases n with
      | zero => exact .nil
      | succ n => exact .cons h (ih ht n)
theorem VRels.drop {vs : List V} {cs : List Value} (h : VRels κ vs cs) (n : Nat) : VRels κ (vs.drop n) (cs.drop n) := by
  induction vs generalizing cs n with
  | nil => cases h; simpa using VRels.nil
  | cons a vs ih =>
    cases h with
    | cons h ht =>
      cases n with
      | zero => exact .cons h ht
      | succ n => exact ih ht n
theorem VRels.replicate (n : Nat) {v : V} {c : Value} (h : VRel κ v c) : VRels κ (List.replicate n v) (List.replicate n c) := by
  induction n with
  | zero => exact .nil
  | succ n ih => exact .cons h ih
theorem VRels.inv_cons {v : V} {vs : List V} {cs : List Value} (h : VRels κ (v :: vs) cs) : ∃ c ds, cs = c :: ds ∧ VRel κ v c ∧ VRels κ vs ds := by
  cases h with | cons h ht => exact ⟨_, _, rfl, h, ht⟩
theorem VRels.inv_nil {cs : List Value} (h : VRels κ [] cs) : cs = [] := by cases h; rfl
theorem VRowss.append {vs us : List (List V)} {cs ds : List (List Value)} (h : VRowss κ vs cs) (k : VRowss κ us ds) : VRowss κ (vs ++ us) (cs ++ ds) := by
  induction vs generalizing cs with
  | nil => cases h; exact k
  | cons a vs ih => cases h with | cons h ht => exact .cons h (ih ht)
theorem VRowss.flat {xs : List (List V)} {css : List (List Value)} (h : VRowss κ xs css) : VRels κ xs.flatten css.flatten := by
  induction xs generalizing css with
  | nil => cases h; exact .nil
  | cons a xs ih => cases h with | cons h ht => exact h.append (ih ht)
theorem VRowss.get {xs : List (List V)} {css : List (List Value)} (h : VRowss κ xs css) {i : Nat} {x : List V} (hv : xs[i]? = some x) : ∃ c, css[i]? = some c ∧ VRels κ x c := by
  induction xs generalizing css i with
  | nil => simp at hv
  | cons a xs ih =>
    cases h with
    | cons h ht =>
      cases i with
      | zero => simp at hv; subst hv; exact ⟨_, rfl, h⟩
      | succ i => simpa using ih ht (by simpa using hv)
theorem VRowss.sizes {xs : List (List V)} {css : List (List Value)} (h : VRowss κ xs css) {sz : Nat} (hs : ∀ x ∈ xs, x.length = sz) : ∀ c ∈ css, c.length = sz := by
  induction xs generalizing css with
  | nil => cases h; simp
  | cons a xs ih =>
    cases h with
    | cons h ht =>
      intro c hc
      rcases List.mem_cons.1 hc with rfl | hc
      · rw [← h.length]; exact hs _ (by simp)
      · exact ih ht (fun x hx => hs x (by simp [hx])) c hc
theorem VRowss.take {vs : List (List V)} {cs : List (List Value)} (h : VRowss κ vs cs) (n : Nat) : VRowss κ (vs.take n) (cs.take n) := by
  induction vs generalizing cs n with
  | nil => cases h; simpa using VRowss.nil
  | cons a vs ih =>
    cases h with
    | cons h ht =>
      cases n with
      | zero => exact .nil
      | succ n => exact .cons h (ih ht n)
/-- one cell here, one cell there -/
theorem VRel.one {v : V} {c : Value} (h : VRel κ v c) (h1 : v.one = true) : one c = true := by
  cases h <;> first | rfl | simp [V.one] at h1 | skip
  cases c <;> first | rfl | simp [V.one] at h1
theorem VRel.cells {v : V} {c : Value} (h : VRel κ v c) (h1 : v.one = true ∨ ∃ cs, v = .agg cs) : VRels κ v.cells c.cells.toList ∧ ∀ x ∈ v.cells, x.one = true := by
  rcases h1 with h1 | ⟨cs, rfl⟩
  · have hc := h.one h1
    have e1 : v.cells = [v] := by cases v <;> first | rfl | simp [V.one] at h1
    have e2 : c.cells = #[c] := by cases c <;> first | rfl | simp [Xa.one] at hc
    rw [e1, e2]
    exact ⟨.cons h .nil, by simpa using h1⟩
  · cases h with
    | agg h h1 => exact ⟨by simpa [V.cells, Value.cells] using h, h1⟩
theorem VRels.ones {vs : List V} {cs : List Value} (h : VRels κ vs cs) (h1 : ∀ v ∈ vs, v.one = true) : ∀ c ∈ cs, Xa.one c = true := by
  induction vs generalizing cs with
  | nil => cases h; simp
  | cons a vs ih =>
    cases h with
    | cons h ht =>
      intro c hc
      rcases List.mem_cons.1 hc with rfl | hc
      · exact h.one (h1 _ (by simp))
      · exact ih ht (fun x hx => h1 x (by simp [hx])) c hc
end

theorem one_eq (c : Value) : one c = c.oneCell' := by cases c <;> rfl
mutual
/-- A value of one cell lies in memory in one way. -/
theorem VRel.uniq {κ : Kp} : ∀ {v : V} {c d : Value}, v.one = true → VRel κ v c → VRel κ v d → c = d
  | _, _, _, _, .lit c, .lit _ => rfl
  | _, _, _, h, .agg _ _, _ => by simp [V.one] at h
  | _, _, _, h, .tup _, _ => by simp [V.one] at h
  | _, _, _, _, .nil sz, .nil _ => rfl
  | _, _, _, _, .nil sz, .slc _ _ _ _ _ hid _ => absurd hid.1 (Nat.lt_irrefl 0)
  | _, _, _, _, .slc _ _ _ _ _ hid _, .nil _ => absurd hid.1 (Nat.lt_irrefl 0)
  | _, _, _, _, .slc _ _ _ _ _ _ hrow, .slc _ _ _ _ _ _ hrow' => by
    obtain ⟨r, h1, h2, h3, h4, _⟩ := hrow
    obtain ⟨s, k1, k2, k3, k4, _⟩ := hrow'
    rw [h1] at k1
    obtain rfl := Option.some.inj k1
    subst h2 h3 h4
    subst k2 k3 k4
    rfl
  | _, _, _, _, .ptr off h, .ptr _ h' => by rw [h] at h'; obtain rfl := Option.some.inj h'; rfl
  | _, _, _, h, .rp _ _ _ _, _ => by simp [V.one] at h
  | _, _, _, _, .fn f h h1, .fn _ h' _ => by rw [VRels.uniq h1 h h']
  | _, _, _, _, .map h, .map h' => by rw [h] at h'; obtain rfl := Option.some.inj h'; rfl
  | _, _, _, h, .hole _, _ => by simp [V.one] at h
  | _, _, _, h, .src _ _ _, _ => by simp [V.one] at h
  | _, _, _, _, .msl h hs hc hn, .msl h' hs' hc' hn' => by
    rw [h] at h'
    obtain rfl := Option.some.inj h'
    congr 1
    omega
  | _, _, _, _, .eptr h, .eptr h' => by
    rw [h] at h'
    obtain rfl := Option.some.inj h'
    rfl
theorem VRels.uniq {κ : Kp} : ∀ {vs : List V} {cs ds : List Value}, (∀ v ∈ vs, v.one = true) → VRels κ vs cs → VRels κ vs ds → cs = ds
  | _, _, _, _, .nil, .nil => rfl
  | _, _, _, h, .cons h1 t1, .cons h2 t2 => by rw [VRel.uniq (h _ (by simp)) h1 h2, VRels.uniq (fun v hv => h v (by simp [hv])) t1 t2]
end
/-- What an abstract object is in memory. -/
def ORel (κ : Kp) (o : Obj) (b : Nat) (w : World) : Prop :=
  match o with
  | .cells cs e => ∃ ccs : Array Value, w.heap[b]? = some (.cells ccs e (0, 0)) ∧ VRels κ cs ccs.toList ∧ ∀ v ∈ cs, v.one = true
  | .map _ _ kv => ∃ es clock, w.heap[b]? = some (.map es clock) ∧ es.toList.map (fun e => e.key) = kv.map (fun p => p.1) ∧ VRels κ (kv.map fun p => p.2) (es.toList.map fun e => e.val) ∧ ∀ e ∈ es, e.born < clock

/-- What an array is in memory. -/
structure ARel (P : Program) (κ : Kp) (a : Arr) (k : Blk) (w : World) : Prop where
  sz : k.sz = a.sz
  pos : 0 < a.sz
  held : ∃ ccs css, w.heap[k.b]? = some (.cells ccs a.e (0, 0)) ∧ VRowss κ a.rows css ∧ css.flatten <+: ccs.toList.drop k.o ∧ k.o + k.cap * k.sz ≤ ccs.size
  len : ∀ r ∈ a.rows, r.length = a.sz
  ones : ∀ r ∈ a.rows, ∀ v ∈ r, v.one = true
  fits : a.rows.length ≤ k.cap
  most : k.cap ≤ maxLen
  typ : P.cellsOf a.e = a.sz
theorem ARel.keep {P : Program} {κ κ' : Kp} {a : Arr} {k : Blk} {w w' : World} (h : ARel P κ a k w) (hk : κ.le κ') (hb : w'.heap[k.b]? = w.heap[k.b]?) : ARel P κ' a k w' :=
  ⟨h.sz, h.pos, let ⟨ccs, css, h1, h2, h3, h4⟩ := h.held; ⟨ccs, css, hb.trans h1, h2.mono hk, h3, h4⟩, h.len, h.ones, h.fits, h.most, h.typ⟩

structure Rel (P : Program) (κ : Kp) (h : H) (w : World) : Prop where
  next : κ.next = h.next
  pos : 0 < h.next
  below : Below κ.w0.heap.size κ.w0 w
  obj : ∀ id o, h.obj id = some o → ∃ b, κ.obj id = some b ∧ ORel κ o b w
  objb : ∀ id b, κ.obj id = some b → κ.w0.heap.size ≤ b ∧ b < w.heap.size ∧ κ.rt b = none ∧ id < κ.next
  inj : ∀ i j b, κ.obj i = some b → κ.obj j = some b → i = j
  rt : ∀ b l, κ.rt b = some l → ∃ cells e fz, w.heap[b]? = some (.cells cells e fz) ∧ l <+: cells.toList
  row : ∀ id r, κ.row id = some r → id < κ.next ∧ 0 < id
  ext : ∀ id n, h.ext id = some n → ∃ r l cells, κ.row id = some r ∧ κ.w0.heap.size ≤ r.b ∧ κ.rt r.b = some l ∧ r.off = 0 ∧ l.length = n * r.sz ∧ w.heap[r.b]? = some (.cells cells r.e (0, 0)) ∧ cells.size = r.cap * r.sz ∧ r.cap ≤ maxLen ∧ P.cellsOf r.e = r.sz
  extinj : ∀ i j n m r s, h.ext i = some n → h.ext j = some m → κ.row i = some r → κ.row j = some s → r.b = s.b → i = j
  free : ∀ id, h.next ≤ id → h.obj id = none ∧ h.ext id = none ∧ h.arr id = none
  hole : ∀ id x, κ.hole id = some x → id < κ.next
  arr : ∀ id a, h.arr id = some a → ∃ k, κ.arr id = some k ∧ ARel P κ a k w
  arrb : ∀ id k, κ.arr id = some k → κ.w0.heap.size ≤ k.b ∧ k.b < w.heap.size ∧ id < κ.next
  arrinj : ∀ i j a a' k k', h.arr i = some a → h.arr j = some a' → κ.arr i = some k → κ.arr j = some k' → k.b = k'.b → i = j
  arro : ∀ id a k, h.arr id = some a → κ.arr id = some k → κ.rt k.b = none ∧ ∀ i, κ.obj i ≠ some k.b

theorem VRel.le {κ κ' : Kp} {v : V} {c : Value} (h : VRel κ v c) (hk : κ.le κ') : VRel κ' v c := h.mono hk
theorem ORel.mono {κ κ' : Kp} (hk : κ.le κ') {o : Obj} {b : Nat} {w : World} (h : ORel κ o b w) : ORel κ' o b w := by
  cases o with
  | cells cs e => obtain ⟨ccs, h1, h2, h3⟩ := h; exact ⟨ccs, h1, h2.mono hk, h3⟩
  | map kt vt kv => obtain ⟨es, cl, h1, h2, h3, h4⟩ := h; exact ⟨es, cl, h1, h2, h3.mono hk, h4⟩
theorem ORel.world {κ : Kp} {o : Obj} {b : Nat} {w w' : World} (h : ORel κ o b w) (hb : w'.heap[b]? = w.heap[b]?) : ORel κ o b w' := by
  cases o with
  | cells cs e => obtain ⟨ccs, h1, h2, h3⟩ := h; exact ⟨ccs, hb.trans h1, h2, h3⟩
  | map kt vt kv => obtain ⟨es, cl, h1, h2⟩ := h; exact ⟨es, cl, hb.trans h1, h2⟩

section moves
variable {P : Program} {κ : Kp} {h : H} {w : World}
theorem Rel.blt (R : Rel P κ h w) : κ.w0.heap.size ≤ w.heap.size := R.below.size
theorem Rel.rt_lt (R : Rel P κ h w) {b : Nat} {l : List Value} (hb : κ.rt b = some l) : b < w.heap.size := by
  obtain ⟨c, e, fz, h1, _⟩ := R.rt b l hb
  rcases Nat.lt_or_ge b w.heap.size with g | g
  · exact g
  · rw [Array.getElem?_eq_none g] at h1; cases h1
/-- What was there stays (a call that only makes memory; a draw). -/
theorem Rel.under (R : Rel P κ h w) {w' : World} (hb : Below w.heap.size w w') : Rel P κ h w' where
  next := R.next
  pos := R.pos
  below := R.below.trans (hb.mono R.blt)
  obj := fun id o ho => by
    obtain ⟨b, h1, h2⟩ := R.obj id o ho
    exact ⟨b, h1, h2.world (hb.block b (R.objb id b h1).2.1)⟩
  objb := fun id b hx => by
    obtain ⟨h1, h2, h3, h4⟩ := R.objb id b hx
    exact ⟨h1, Nat.lt_of_lt_of_le h2 hb.size, h3, h4⟩
  inj := R.inj
  rt := fun b l hl => by
    obtain ⟨c, e, fz, h1, h2⟩ := R.rt b l hl
    exact ⟨c, e, fz, (hb.block b (R.rt_lt hl)).trans h1, h2⟩
  row := R.row
  ext := fun id n hx => by
    obtain ⟨r, l, c, h1, h2, h3, h4, h4b, h5, h6⟩ := R.ext id n hx
    exact ⟨r, l, c, h1, h2, h3, h4, h4b, (hb.block r.b (R.rt_lt h3)).trans h5, h6⟩
  extinj := R.extinj
  free := R.free
  hole := R.hole
  arr := fun id a ha => by
    obtain ⟨k, h1, h2⟩ := R.arr id a ha
    exact ⟨k, h1, h2.keep (Kp.le.refl κ) (hb.block k.b (R.arrb id k h1).2.1)⟩
  arrb := fun id k hx => by
    obtain ⟨h1, h2, h3⟩ := R.arrb id k hx
    exact ⟨h1, Nat.lt_of_lt_of_le h2 hb.size, h3⟩
  arrinj := R.arrinj
  arro := R.arro
/-- Nothing but the heap's blocks is spoken of. -/
theorem Rel.same (R : Rel P κ h w) {w' : World} (hb : ∀ k : Nat, w'.heap[k]? = w.heap[k]?) (hs : w'.heap.size = w.heap.size) (h1 : w'.os = w.os) (h2 : w'.tape = w.tape) (h3 : w'.output = w.output) : Rel P κ h w' :=
  R.under ⟨h1, h2, h3, Nat.le_of_eq hs.symm, fun k _ => hb k⟩
end moves
end Go.Proofs.YtjofmihdeblbmaaGreatDoor.Xa

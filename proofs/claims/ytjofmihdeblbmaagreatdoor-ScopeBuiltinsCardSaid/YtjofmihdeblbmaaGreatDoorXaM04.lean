/- XA, joined: XaC. -/
import Derived.Test.YtjofmihdeblbmaaGreatDoorXaM03
import Derived.Deep.MidRow
import Derived.Laws.CopyRow
import Derived.Laws.AppendOwn
/- XA, part C: types, and the operations one by one: what each gives, and that it gives it. -/
namespace Go.Proofs.YtjofmihdeblbmaaGreatDoor.Xa
open Go Go.RowKit
set_option linter.unusedVariables false
set_option linter.unusedSimpArgs false

inductive TD where
  | other
  | struct (fs : List (Nat × TypeId))
  | slc (e : TypeId)
  | int (k : IntKind)
  | str
  | bool
  | map (k v : TypeId)
structure Ty where
  size : Nat
  bytes : Nat
  agg : Bool
  zero : List V
  desc : TD

def V.conc : V → Option Value
  | .lit c => some c
  | .slc 0 _ [] => some (.slice none 0 0)
  | _ => none
def TDFits : TD → TypeDesc → Prop
  | .other, _ => True
  | .struct fs, d => ∃ f, d = .struct f ∧ f.toList.map (fun x => (x.offset, x.type)) = fs
  | .slc e, d => d = .slice e
  | .int k, d => d = .int k
  | .str, d => d = .string
  | .bool, d => d = .bool
  | .map k v, d => d = .map k v
def descAgg : TypeDesc → Bool
  | .struct _ => true
  | .array _ _ => true
  | _ => false
def aggV : Value → Bool
  | .agg _ => true
  | _ => false
structure TyFits0 (P : Program) (t : TypeId) (ty : Ty) : Prop where
  info : ∃ i z, P.info? t = some i ∧ i.size = ty.size ∧ i.bytes = ty.bytes ∧ i.zero = some z ∧ z.cells.toList.map some = ty.zero.map V.conc ∧ z.cells.size = i.size ∧ ∀ v ∈ ty.zero, v.one = true
  desc : ∃ d, P.underlying t = some d ∧ descAgg d = ty.agg ∧ TDFits ty.desc d
structure TyFits (P : Program) (t : TypeId) (ty : Ty) : Prop where
  fits : TyFits0 P t ty
  shape : ∀ i z, P.info? t = some i → i.zero = some z → aggV z = ty.agg
/-- The program, its types as a table, what is said of the world at the begin. -/
structure Env where
  P : Program
  T : Nat → Option Ty
  okT : ∀ t ty, T t = some ty → TyFits P t ty
  I : World → Prop
  mtb : TypeId → Bool := fun _ => false     -- slice types that a walk makes as arrays that may be written
theorem Env.ok (E : Env) (t : TypeId) (ty : Ty) (h : E.T t = some ty) : TyFits0 E.P t ty := (E.okT t ty h).fits

def cv1 : Value → V
  | .slice none 0 0 => .slc 0 0 []
  | c => .lit c
def cv : Value → V
  | .slice none 0 0 => .slc 0 0 []
  | .agg cs => if (cs.toList.map cv1).all V.one = true then .agg (cs.toList.map cv1) else .lit (.agg cs)
  | c => .lit c
def ev (fr : List V) : Operand → V
  | .tmp t => fr.getD t (.tup [])
  | .const c => cv c
  | .global g => .lit (.pointer (some ⟨g, 0, none⟩))
  | .func f => .fn f []
theorem cv1_rel (κ : Kp) (c : Value) : VRel κ (cv1 c) c := by
  unfold cv1
  split
  · exact .nil 0
  · exact .lit c
theorem cv1_rels (κ : Kp) : ∀ l : List Value, VRels κ (l.map cv1) l
  | [] => .nil
  | c :: l => .cons (cv1_rel κ c) (cv1_rels κ l)
theorem cv_rel (κ : Kp) (c : Value) : VRel κ (cv c) c := by
  unfold cv
  split
  · exact .nil 0
  · rename_i cs
    split
    · rename_i h
      exact .agg (cs := cs.toList.map cv1) (ccs := cs.toList) (cv1_rels κ _) (List.all_eq_true.1 h)
    · exact .lit _
  · exact .lit c
theorem ev_rel {κ : Kp} {fr : List V} {a : Act} (h : VRels κ fr a.tmps.toList) (x : Operand) : VRel κ (ev fr x) (a.eval x) := by
  cases x with
  | tmp t =>
    have := h.getD t
    simp only [ev, Act.eval]
    have e : a.tmps.toList.getD t undef = a.tmps.getD t undef := by
      simp [List.getD, Array.getD_eq_getD_getElem?]
    rw [← e]; exact this
  | const c => exact cv_rel κ c
  | global g => exact .lit _
  | func f => exact .fn f .nil (by simp)

/-- (no instance stands in these: a walk by simp leaves instances as they are) -/
def ltB (a b : Int) : Bool := decide (a < b)
def leB (a b : Int) : Bool := decide (a ≤ b)
theorem ltB_t {a b : Int} (h : a < b) : ltB a b = true := decide_eq_true h
theorem ltB_f {a b : Int} (h : b ≤ a) : ltB a b = false := decide_eq_false (by omega)
theorem leB_t {a b : Int} (h : a ≤ b) : leB a b = true := decide_eq_true h
theorem leB_f {a b : Int} (h : b < a) : leB a b = false := decide_eq_false (by omega)
/-- what an operation on address-free values gives -/
def xbin : BinOp → Value → Value → Option Value
  | .add, .int k a, .int k' b => if k = k' then some (.int k (k.wrap (a + b))) else none
  | .sub, .int k a, .int k' b => if k = k' then some (.int k (k.wrap (a - b))) else none
  | .mul, .int k a, .int k' b => if k = k' then some (.int k (k.wrap (a * b))) else none
  | .quo, .int k a, .int k' b => if k = k' then if b = 0 then none else some (.int k (k.wrap (a.tdiv b))) else none
  | .rem, .int k a, .int k' b => if k = k' then if b = 0 then none else some (.int k (a.tmod b)) else none
  | .and, .int k a, .int k' b => if k = k' then some (.int k (k.wrap ((BitVec.ofInt k.bits a &&& BitVec.ofInt k.bits b).toNat : Int))) else none
  | .eql, .int k a, .int k' b => if k = k' then some (.bool (a == b)) else none
  | .neq, .int k a, .int k' b => if k = k' then some (.bool (a != b)) else none
  | .lss, .int k a, .int k' b => if k = k' then some (.bool (ltB a b)) else none
  | .leq, .int k a, .int k' b => if k = k' then some (.bool (leB a b)) else none
  | .gtr, .int k a, .int k' b => if k = k' then some (.bool (ltB b a)) else none
  | .geq, .int k a, .int k' b => if k = k' then some (.bool (leB b a)) else none
  | .shl, .int k a, .int yk b => if b < 0 then none else some (.int k (k.wrap (a * 2 ^ min b.toNat k.bits)))
  | .shr, .int k a, .int yk b => if b < 0 then none else some (.int k (a.fdiv (2 ^ min b.toNat k.bits)))
  | .add, .string a, .string b => if ((a.size + b.size : Nat) : Int) > IntKind.i64.max then none else some (.string (a ++ b))
  | .eql, .string a, .string b => some (.bool (a.toList == b.toList))
  | .neq, .string a, .string b => some (.bool !(a.toList == b.toList))
  | .eql, .complex k a b, .complex k' c d => if k = k' ∧ a = 0 ∧ b = 0 ∧ c = 0 ∧ d = 0 then some (.bool true) else none
  | _, _, _ => none
section
variable {P : Program}
theorem xbin_ok {op : BinOp} {a b c : Value} (h : xbin op a b = some c) (t : TypeId) (x y : Operand) (w : World) :
    (do eqGuard op t x y a b; binOp op t a b : Sem Value).run P w = .ok c w := by
  unfold xbin at h
  split at h <;> (try split at h) <;> (try split at h) <;> first
    | (simp at h; done)
    | (obtain rfl := Option.some.inj h
       first
         | (subst_vars; simp [ltB, leB, eqGuard, binOp, Op.intArith, Op.intDiv, Op.intBits, Op.intCmp, Op.shift, *]; done)
         | (simp [eqGuard, binOp, Op.stringOp, *]; done)
         | (simp_all [eqGuard, binOp, Op.stringOp]; done)
         | (rename_i k _ _ k' _ _ hh
            obtain ⟨rfl, rfl, rfl, rfl, rfl⟩ := hh
            cases k <;> simp [eqGuard, binOp] <;> rfl))

def xun : UnOp → Value → Option Value
  | .neg, .int k n => some (.int k (k.wrap (0 - n)))
  | .not, .bool b => some (.bool !b)
  | _, _ => none
theorem xun_ok {op : UnOp} {a c : Value} (h : xun op a = some c) (w : World) : (Op.unary op a).run P w = .ok c w := by
  unfold xun at h
  split at h
  · obtain rfl := Option.some.inj h; simp [Op.unary, Op.intArith]
  · obtain rfl := Option.some.inj h; simp [Op.unary]
  · cases h
end

/-- what a type's variable holds, out of its cells -/
def mk (ty : Ty) (l : List V) : Option V := if ty.agg then some (.agg l) else match l with | [v] => some v | _ => none
def splice (cs : List V) (off : Nat) (l : List V) : List V := cs.take off ++ l ++ cs.drop (off + l.length)
def V.storable : V → Bool
  | .agg _ => true
  | v => v.one
def xload (E : Env) (t : TypeId) (a : V) (h : H) : Option V :=
  match E.T t, a with
  | some ty, .ptr id off => match h.obj id with
    | some (.cells cs _) => if off + ty.size ≤ cs.length then mk ty ((cs.drop off).take ty.size) else none
    | _ => none
  | some ty, .rp cells off => if off + ty.size ≤ cells.length then mk ty ((cells.drop off).take ty.size) else none
  | some ty, .eptr id i off => match h.arr id with
    | some a => match a.rows[i]? with
      | some r => if off + ty.size ≤ r.length then mk ty ((r.drop off).take ty.size) else none
      | none => none
    | none => none
  | _, _ => none
def xstore (E : Env) (t : TypeId) (a v : V) (h : H) : Option H :=
  match E.T t, a with
  | some ty, .ptr id off => match h.obj id with
    | some (.cells cs e) => if v.storable = true ∧ v.cells.length = ty.size ∧ off + ty.size ≤ cs.length then some (h.put id (.cells (splice cs off v.cells) e)) else none
    | _ => none
  | some ty, .eptr id i off => match h.arr id with
    | some a => match a.rows[i]? with
      | some r => if v.storable = true ∧ v.cells.length = ty.size ∧ off + ty.size ≤ r.length then some (h.putArr id { a with rows := a.rows.set i (splice r off v.cells) }) else none
      | none => none
    | none => none
  | _, _ => none
theorem flat_split {α : Type} {sz : Nat} : ∀ {css : List (List α)} {i : Nat} {cs : List α}, (∀ r ∈ css, r.length = sz) → css[i]? = some cs → ∃ pre post, css.flatten = pre ++ (cs ++ post) ∧ pre.length = i * sz ∧ ∀ x, (css.set i x).flatten = pre ++ (x ++ post)
  | [], i, cs, _, h => by simp at h
  | r :: css, 0, cs, hl, h => by
    simp at h
    subst h
    exact ⟨[], css.flatten, by simp, by simp, by simp⟩
  | r :: css, i + 1, cs, hl, h => by
    obtain ⟨pre, post, h1, h2, h3⟩ := flat_split (css := css) (i := i) (fun x hx => hl x (List.mem_cons_of_mem _ hx)) (by simpa using h)
    refine ⟨r ++ pre, post, by simp [h1], by rw [List.length_append, h2, hl r (by simp), Nat.succ_mul]; omega, fun x => by simp [h3]⟩
theorem store_mid {α : Type} (A l l' D : List α) (n : Nat) (hA : A.length = n) (hl : l.length = l'.length) : (A ++ (l ++ D)).take n ++ l' ++ (A ++ (l ++ D)).drop (n + l'.length) = A ++ (l' ++ D) := by
  subst hA
  rw [List.take_left, ← hl, ← List.append_assoc A l D, ← List.length_append, List.drop_left, List.append_assoc]
theorem VRowss.set {κ : Kp} {xs : List (List V)} {css : List (List Value)} (h : VRowss κ xs css) {x : List V} {c : List Value} (hx : VRels κ x c) (i : Nat) : VRowss κ (xs.set i x) (css.set i c) := by
  induction xs generalizing css i with
  | nil => cases h; exact .nil
  | cons a xs ih =>
    cases h with
    | cons h ht =>
      cases i with
      | zero => exact .cons hx ht
      | succ i => exact .cons h (ih ht i)

section
variable {E : Env} {κ : Kp} {h : H} {w : World}
theorem rel_rt (R : Rel E.P κ h w) {b o : Nat} {ccs : List Value} (hr : rtAt κ b o ccs) {j : Nat} {v : Value} (hv : ccs[j]? = some v) : w.cell? ⟨b, o + j, none⟩ = some v := by
  obtain ⟨l, h1, h2⟩ := hr
  obtain ⟨cells, e, fz, h3, h4⟩ := R.rt b l h1
  have : ccs <+: cells.toList.drop o := h2.trans (prefix_drop h4 o)
  obtain ⟨t, ht⟩ := this
  have h5 : (cells.toList.drop o)[j]? = some v := by
    rw [← ht, List.getElem?_append_left (List.getElem?_eq_some_iff.1 hv).1]; exact hv
  rw [List.getElem?_drop] at h5
  simp only [World.cell?, h3]
  simpa using h5
theorem run_load_of {t : TypeId} {ty : Ty} (hT : E.T t = some ty) {v : V} {cs : List V} {ccs : List Value} (hv : VRels κ cs ccs) (h1 : ∀ c ∈ cs, c.one = true) {b o : Nat}
    (hc : ∀ j v, ccs[j]? = some v → w.cell? ⟨b, o + j, none⟩ = some v) (hl : cs.length = ty.size) (hm : mk ty cs = some v) :
    ∃ c, (loadVar t ⟨b, o, none⟩).run E.P w = .ok c w ∧ VRel κ v c := by
  obtain ⟨⟨i, z, hi, hs, _⟩, d, hd, hagg, _⟩ := E.ok t ty hT
  unfold mk at hm
  by_cases ha : ty.agg = true
  · rw [if_pos ha] at hm
    obtain rfl := Option.some.inj hm
    have hlen : ccs.length = i.size := by rw [hs, ← hl, hv.length]
    have hld := run_loadCells_list (P := E.P) w ⟨b, o, none⟩ ccs (fun j v hj => by rw [Addr.add_mid]; exact hc j v hj)
    refine ⟨.agg ccs.toArray, ?_, .agg hv h1⟩
    have hrow : (isAgg t).run E.P w = .ok true w := by
      rw [← ha, ← hagg]
      simp only [isAgg, Sem.run_bind, run_underlying hd, Result.andThen_ok]
      cases d <;> rfl
    simp only [loadVar, Sem.run_bind, hrow, Result.andThen_ok, sizeOf, typeInfo]
    simp [hi, ← hlen, hld]
  · rw [if_neg ha] at hm
    split at hm
    · obtain rfl := Option.some.inj hm
      obtain ⟨c, ds, rfl, hvc, hnil⟩ := hv.inv_cons
      have := hnil.inv_nil; subst this
      refine ⟨c, ?_, hvc⟩
      have hrow : (isAgg t).run E.P w = .ok false w := by
        rw [show false = descAgg d by rw [hagg]; simpa using ha]
        simp only [isAgg, Sem.run_bind, run_underlying hd, Result.andThen_ok]
        cases d <;> rfl
      have h0 := hc 0 c rfl
      simp only [Nat.add_zero] at h0
      simp only [loadVar, Sem.run_bind, hrow, Result.andThen_ok]
      simp [h0]
    · cases hm
theorem xload_ok (R : Rel E.P κ h w) {t : TypeId} {a v : V} {ca : Value} (ha : VRel κ a ca) (hx : xload E t a h = some v) :
    ∃ c, (Instr.loadAt t ca).run E.P w = .ok c w ∧ VRel κ v c := by
  unfold xload at hx
  split at hx
  · rename_i ty id off hT
    cases ha with
    | ptr off hb =>
      rename_i b
      split at hx
      · rename_i cs e ho
        split at hx
        · rename_i hle
          obtain ⟨b', hb', ccs, h1, h2, h3⟩ := R.obj id _ ho
          rw [hb] at hb'
          obtain rfl := Option.some.inj hb'
          have hv := (h2.drop off).take ty.size
          obtain ⟨c, hc, hr⟩ := run_load_of (w := w) (b := b) (o := off) hT hv (fun c hc => h3 c (List.mem_of_mem_drop (List.mem_of_mem_take hc))) (fun j u hj => by
            have hj' := List.getElem?_eq_some_iff.1 hj
            rw [List.getElem?_take_of_lt (by have := hj'.1; simp at this; omega), List.getElem?_drop] at hj
            simp only [World.cell?, h1]
            simpa using hj) (by simp; omega) hx
          refine ⟨c, ?_, hr⟩
          simpa [Instr.loadAt, Instr.sureAddr] using hc
        · cases hx
      · cases hx
  · rename_i ty cells off hT
    cases ha with
    | rp off hcc h1 hr =>
      rename_i ccs b o
      split at hx
      · rename_i hle
        have hv := (hcc.drop off).take ty.size
        obtain ⟨c, hc, hr⟩ := run_load_of (w := w) (b := b) (o := o + off) hT hv (fun c hc => h1 c (List.mem_of_mem_drop (List.mem_of_mem_take hc))) (fun j u hj => by
          have hj' := List.getElem?_eq_some_iff.1 hj
          rw [List.getElem?_take_of_lt (by have := hj'.1; simp at this; omega), List.getElem?_drop] at hj
          rw [Nat.add_assoc]
          exact rel_rt R hr hj) (by simp; omega) hx
        refine ⟨c, ?_, hr⟩
        simpa [Instr.loadAt, Instr.sureAddr] using hc
      · cases hx
  · rename_i ty id i off hT
    cases ha with
    | eptr hk =>
      rename_i k
      split at hx
      case h_2 => cases hx
      rename_i a ho
      split at hx
      case h_2 => cases hx
      rename_i r hr
      split at hx
      case isFalse => cases hx
      rename_i hle
      obtain ⟨k', hk', hA⟩ := R.arr id a ho
      rw [hk] at hk'
      obtain rfl := Option.some.inj hk'
      obtain ⟨ccs, css, h1, h2, ⟨tl, h3⟩, h4⟩ := hA.held
      obtain ⟨cs, g1, g2⟩ := h2.get hr
      obtain ⟨pre, post, f1, f2, _⟩ := flat_split (h2.sizes hA.len) g1
      have hlr : cs.length = r.length := g2.length.symm
      have hv := (g2.drop off).take ty.size
      obtain ⟨c, hc, hr2⟩ := run_load_of (w := w) (b := k.b) (o := k.o + i * k.sz + off) hT hv (fun c hc => hA.ones r (List.mem_of_getElem? hr) c (List.mem_of_mem_drop (List.mem_of_mem_take hc))) (fun j u hj => by
        have hj' := (List.getElem?_eq_some_iff.1 hj).1
        simp at hj'
        rw [List.getElem?_take_of_lt (by omega), List.getElem?_drop] at hj
        have q : (ccs.toList.drop k.o)[i * k.sz + (off + j)]? = some u := by
          rw [← h3, f1, hA.sz, ← f2, List.append_assoc, List.getElem?_append_right (by omega), Nat.add_sub_cancel_left, List.append_assoc, List.getElem?_append_left (by omega)]
          exact hj
        rw [List.getElem?_drop] at q
        simp only [World.cell?, h1]
        rw [show k.o + i * k.sz + off + j = k.o + (i * k.sz + (off + j)) by simp only [Nat.add_assoc], ← Array.getElem?_toList]
        exact q) (by simp; omega) hx
      refine ⟨c, ?_, hr2⟩
      simpa [Instr.loadAt, Instr.sureAddr] using hc
  · cases hx

theorem storable_cells {v : V} {c : Value} (hv : VRel κ v c) (hs : v.storable = true) : VRels κ v.cells c.cells.toList ∧ ∀ x ∈ v.cells, x.one = true := by
  refine hv.cells ?_
  cases v <;> first | exact .inl hs | exact .inr ⟨_, rfl⟩ | skip
theorem setRow_size (w : World) (g : Nat) (cs : Array Value) : (w.setRow g cs).heap.size = w.heap.size := by simp [World.setRow]
theorem setRow_below {B : Nat} (w : World) (g : Nat) (cs : Array Value) (hg : B ≤ g) : Below B w (w.setRow g cs) :=
  ⟨rfl, rfl, rfl, by rw [setRow_size]; exact Nat.le_refl _, fun k hk => setRow_other w g k cs (by omega)⟩
theorem xstore_ok (R : Rel E.P κ h w) {t : TypeId} {a v : V} {ca c : Value} {h' : H} (ha : VRel κ a ca) (hv : VRel κ v c) (hx : xstore E t a v h = some h') :
    ∃ w', (Instr.storeAt t ca c).run E.P w = .ok () w' ∧ Rel E.P κ h' w' := by
  unfold xstore at hx
  split at hx
  · rename_i ty id off hT
    cases ha with
    | ptr off hb =>
      rename_i b
      split at hx
      · rename_i cs e ho
        split at hx
        · rename_i hcond
          obtain ⟨hs, hl, hle⟩ := hcond
          obtain rfl := Option.some.inj hx
          obtain ⟨⟨i, z, hi, hsz, _⟩, _⟩ := E.ok t ty hT
          obtain ⟨b', hb', ccs, h1, h2, h3⟩ := R.obj id _ ho
          rw [hb] at hb'
          obtain rfl := Option.some.inj hb'
          obtain ⟨hvc, hv1⟩ := storable_cells hv hs
          have hlen : c.cells.toList.length = ty.size := by rw [← hvc.length]; exact hl
          have hccs : cs.length = ccs.size := by rw [h2.length]; simp
          have hst := run_storeCells_at E.P b off e c.cells.toList 0 ccs w h1 (by rw [hlen]; omega) (fun u hu => by rw [← one_eq]; exact hvc.ones hv1 u hu)
          simp only [Nat.add_zero] at hst
          refine ⟨w.setRow b (ccs.toList.take off ++ c.cells.toList ++ ccs.toList.drop (off + c.cells.toList.length)).toArray, ?_, ?_⟩
          · simp only [Instr.storeAt, Instr.sureAddr, storeVar, Sem.run_bind, Sem.run_pure, Result.andThen_ok, sizeOf, typeInfo]
            have : c.cells.size = i.size := by rw [hsz, ← hlen]; simp
            simp [hi, this, hst]
          · refine R.putObj ho hb ?_ (fun k hk => setRow_other w b k _ hk) (setRow_size _ _ _) (setRow_below _ _ _ (R.objb id b hb).1)
            refine ⟨_, setRow_heap w b ccs _ e _ h1, ?_, ?_⟩
            · have := ((h2.take off).append hvc).append (h2.drop (off + v.cells.length))
              rw [hl] at this
              unfold splice
              rw [hl]
              simpa [hlen] using this
            · intro x hx
              unfold splice at hx
              simp only [List.mem_append] at hx
              rcases hx with (hx | hx) | hx
              · exact h3 x (List.mem_of_mem_take hx)
              · exact hv1 x hx
              · exact h3 x (List.mem_of_mem_drop hx)
        · cases hx
      · cases hx
  · rename_i ty id i off hT
    cases ha with
    | eptr hk =>
      rename_i k
      split at hx
      case h_2 => cases hx
      rename_i a ho
      split at hx
      case h_2 => cases hx
      rename_i r hr
      split at hx
      case isFalse => cases hx
      rename_i hcond
      obtain ⟨hs, hl, hle⟩ := hcond
      obtain rfl := Option.some.inj hx
      obtain ⟨⟨ii, z, hi, hsz, _⟩, _⟩ := E.ok t ty hT
      obtain ⟨k', hk', hA⟩ := R.arr id a ho
      rw [hk] at hk'
      obtain rfl := Option.some.inj hk'
      obtain ⟨ccs, css, h1, h2, ⟨tl, h3⟩, h4⟩ := hA.held
      obtain ⟨cs, g1, g2⟩ := h2.get hr
      obtain ⟨pre, post, f1, f2, f3⟩ := flat_split (h2.sizes hA.len) g1
      obtain ⟨hvc, hv1⟩ := storable_cells hv hs
      have hlen : c.cells.toList.length = ty.size := by rw [← hvc.length]; exact hl
      have hlr : cs.length = r.length := g2.length.symm
      have hko : k.o ≤ ccs.toList.length := by
        have : k.o ≤ ccs.size := by omega
        simpa using this
      have e0 : ccs.toList = (ccs.toList.take k.o ++ pre ++ cs.take off) ++ ((cs.drop off).take ty.size ++ (cs.drop (off + ty.size) ++ (post ++ tl))) := by
        conv => lhs; rw [← List.take_append_drop k.o ccs.toList, ← h3, f1]
        have : cs = cs.take off ++ ((cs.drop off).take ty.size ++ cs.drop (off + ty.size)) := by
          rw [← List.drop_drop, List.take_append_drop, List.take_append_drop]
        conv => lhs; rw [this]
        simp only [List.append_assoc]
      have eA : (ccs.toList.take k.o ++ pre ++ cs.take off).length = k.o + i * k.sz + off := by
        simp only [List.length_append, List.length_take, f2, hA.sz]
        omega
      have eL : ((cs.drop off).take ty.size).length = c.cells.toList.length := by
        rw [hlen]; simp; omega
      have hin : k.o + i * k.sz + off + c.cells.toList.length ≤ ccs.size := by
        have := congrArg List.length e0
        simp only [List.length_append] at this eA
        rw [Array.length_toList] at this
        rw [← eL]
        omega
      have hst := run_storeCells_at E.P k.b (k.o + i * k.sz + off) a.e c.cells.toList 0 ccs w h1 (by omega) (fun u hu => by rw [← one_eq]; exact hvc.ones hv1 u hu)
      simp only [Nat.add_zero] at hst
      have hX : ccs.toList.take (k.o + i * k.sz + off) ++ c.cells.toList ++ ccs.toList.drop (k.o + i * k.sz + off + c.cells.toList.length) = (ccs.toList.take k.o ++ pre ++ cs.take off) ++ (c.cells.toList ++ (cs.drop (off + ty.size) ++ (post ++ tl))) := by
        conv => lhs; rw [e0]
        exact store_mid _ _ _ _ _ eA eL
      refine ⟨w.setRow k.b (ccs.toList.take (k.o + i * k.sz + off) ++ c.cells.toList ++ ccs.toList.drop (k.o + i * k.sz + off + c.cells.toList.length)).toArray, ?_, ?_⟩
      · simp only [Instr.storeAt, Instr.sureAddr, storeVar, Sem.run_bind, Sem.run_pure, Result.andThen_ok, sizeOf, typeInfo]
        have : c.cells.size = ii.size := by rw [hsz, ← hlen]; simp
        simp [hi, this, hst]
      · refine R.putArr ho hk ?_ (fun j hj => setRow_other w k.b j _ hj) (setRow_size _ _ _) (setRow_below _ _ _ (R.arrb id k hk).1)
        have hri : i < a.rows.length := (List.getElem?_eq_some_iff.1 hr).1
        have hnew : VRels κ (splice r off v.cells) (cs.take off ++ c.cells.toList ++ cs.drop (off + ty.size)) := by
          have := ((g2.take off).append hvc).append (g2.drop (off + v.cells.length))
          unfold splice
          rw [hl] at this ⊢
          exact this
        refine ⟨hA.sz, hA.pos, ⟨_, css.set i (cs.take off ++ c.cells.toList ++ cs.drop (off + ty.size)), setRow_heap w k.b ccs _ a.e _ h1, h2.set hnew i, ?_, ?_⟩, ?_, ?_, by simpa using hA.fits, hA.most, hA.typ⟩
        · rw [hX, f3]
          refine ⟨tl, ?_⟩
          simp only [List.append_assoc]
          rw [List.drop_left' (by simp; omega)]
        · rw [hX]
          have e5 := congrArg List.length e0
          simp only [List.length_append, Array.length_toList, List.size_toArray] at e5 eL ⊢
          omega
        · intro x hx
          rcases List.mem_or_eq_of_mem_set hx with hx | rfl
          · exact hA.len x hx
          · rw [← hA.len r (List.mem_of_getElem? hr)]
            unfold splice
            simp only [List.length_append, List.length_take, List.length_drop, hl]
            omega
        · intro x hx
          rcases List.mem_or_eq_of_mem_set hx with hx | rfl
          · exact hA.ones x hx
          · intro y hy
            unfold splice at hy
            simp only [List.mem_append] at hy
            have ho1 := hA.ones r (List.mem_of_getElem? hr)
            rcases hy with (hy | hy) | hy
            · exact ho1 y (List.mem_of_mem_take hy)
            · exact hv1 y hy
            · exact ho1 y (List.mem_of_mem_drop hy)
  · cases hx
end
end Go.Proofs.YtjofmihdeblbmaaGreatDoor.Xa

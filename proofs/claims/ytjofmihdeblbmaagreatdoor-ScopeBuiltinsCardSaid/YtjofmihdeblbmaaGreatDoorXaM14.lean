/- XA, joined: XaJ. -/
import Derived.Test.YtjofmihdeblbmaaGreatDoorXaM13
import Derived.Scope
import Derived.Deep.LoopGhost
/- XA, part J: calls, rows of operations, code. -/
namespace Go.Proofs.YtjofmihdeblbmaaGreatDoor.Xa
open Go Go.RowKit
set_option linter.unusedVariables false
set_option linter.unusedSimpArgs false

def Enter (P : Program) (f : FuncId) : Prop := ∃ fn c, P.funcs[f]? = some fn ∧ fn.body = some c ∧ (fn.name == "runtime.NumGoroutine") = false
/-- The call of a function over the abstract heap. -/
def XCalls (E : Env) (f : FuncId) (args : List V) (h : H) (Q : V → H → Prop) : Prop :=
  Enter E.P f ∧ ∀ (κ : Kp) (w : World) (cargs : Array Value), E.I κ.w0 → Rel E.P κ h w → VRels κ args cargs.toList →
    Calls E.P f cargs w fun e w' => ∃ κ' v c h', e = .returned c ∧ κ.le κ' ∧ VRel κ' v c ∧ Rel E.P κ' h' w' ∧ Q v h'
theorem XCalls.mono {E : Env} {f : FuncId} {args : List V} {h : H} {Q Q' : V → H → Prop} (c : XCalls E f args h Q) (hq : ∀ v h', Q v h' → Q' v h') : XCalls E f args h Q' :=
  ⟨c.1, fun κ w cargs hI R ha => (c.2 κ w cargs hI R ha).mono fun e w' ⟨κ', v, cc, h', h1, h2, h3, h4, h5⟩ => ⟨κ', v, cc, h', h1, h2, h3, h4, hq v h' h5⟩⟩

/-- An operation: calls too. -/
def xdo (E : Env) (op : Op) (fr : List V) (h : H) (K : V → H → Prop) : Prop :=
  match op with
  | .call { callee := .value f, args, .. } => match ev fr f with
    | .fn g caps => XCalls E g (args.toList.map (ev fr) ++ caps) h K
    | _ => False
  | op => match xop E op fr h with
    | some (v, h') => K v h'
    | none => False
def put (fr : List V) (dst : Option Tmp) (v : V) : List V := match dst with | some d => fr.set d v | none => fr
def dstAt : List Oper → Nat → Option Tmp
  | [], _ => none
  | o :: _, 0 => o.dst
  | _ :: r, n + 1 => dstAt r n
theorem dstAt_eq : ∀ (l : List Oper) (j : Nat), dstAt l j = (l[j]?).bind (·.dst)
  | [], _ => by simp [dstAt]
  | o :: _, 0 => by simp [dstAt]
  | _ :: r, n + 1 => by simp [dstAt, dstAt_eq r n]
def want1 (want : Bool) : V → Option Bool
  | .lit (.bool b) => some (b == want)
  | .tup _ => some false
  | _ => none
def xwant (ops : Array Oper) (o : Oper) (fr : List V) : Option Bool :=
  match o.guard with
  | none => some true
  | some (j, want) => match dstAt ops.toList j with
    | some t => if t < fr.length then want1 want (ev fr (.tmp t)) else none
    | none => none
/-- what an operation is for a row of operations: 'x = append(x, f())' is a row of one nought (src), the append (fill: with the element to come), and the store (pay) -/
inductive Kd where
  | norm
  | src
  | fill (v : Operand)
  | pay
structure XOp where
  o : Oper
  kind : Kd
def findStore (tX : Tmp) : List Oper → Option Operand
  | [] => none
  | o :: r => match o.op with
    | .store _ (.tmp t) v => if t = tX then some v else findStore tX r
    | _ => findStore tX r
def findFill (tA : Tmp) : List Oper → Option (Tmp × Operand)
  | [] => none
  | o :: r => match o.op, o.dst with
    | .indexAddr _ (.tmp t) _, some tX => if t = tA then (findStore tX r).map (tX, ·) else findFill tA r
    | _, _ => findFill tA r
def fillOf (o : Oper) (r : List Oper) : Option (Tmp × Operand) :=
  match o.op, o.dst with
  | .call { callee := .builtin .append, .. }, some tA => findFill tA r
  | _, _ => none
def srcOf (tB : Tmp) : List Oper → Bool
  | [] => false
  | o :: r => match o.op with
    | .call { callee := .builtin .append, args, .. } => match args.toList with
      | [_, .tmp t] => if t = tB then (fillOf o r).isSome else srcOf tB r
      | _ => srcOf tB r
    | _ => srcOf tB r
def annot : List Tmp → List Oper → List XOp
  | _, [] => []
  | ps, o :: r => match o.op, o.dst with
    | .call { callee := .builtin .append, .. }, _ => match fillOf o r with
      | some (tX, v) => ⟨o, .fill v⟩ :: annot (tX :: ps) r
      | none => ⟨o, .norm⟩ :: annot ps r
    | .buildSlice _ 1 _, some tB => ⟨o, if srcOf tB r then .src else .norm⟩ :: annot ps r
    | .store _ (.tmp t) _, _ => ⟨o, if ps.contains t then .pay else .norm⟩ :: annot ps r
    | _, _ => ⟨o, .norm⟩ :: annot ps r
inductive KC where
  | quiet
  | eff
  | fill (v : Operand)
  | pay
def kcls (x : XOp) : KC :=
  match x.kind with
  | .src => .quiet
  | .fill v => .fill v
  | .pay => .pay
  | .norm => match cls x.o.op with
    | .eff => .eff
    | _ => .quiet
/-- the value of what does not write -/
def qvalN (E : Env) (op : Op) (fr : List V) (h : H) (d : Option Debt) : Option V :=
  match cls op with
  | .load t a => match d with
    | none => xload E t (ev fr a) h
    | some _ => none
  | .rd => match d with
    | none => (xop E op fr h).map (·.1)
    | some _ => none
  | .pure => match d with
    | none => (xop E op fr h).map (·.1)
    | some dd => xpure E op fr h dd
  | .eff => none
def qval (E : Env) (x : XOp) (fr : List V) (h : H) (d : Option Debt) : Option V :=
  match x.kind with
  | .src => match d with
    | none => xsrc E x.o.op fr
    | some _ => none
  | _ => qvalN E x.o.op fr h d
def xstep (E : Env) (x : XOp) (fr : List V) (h : H) (d : Option Debt) (K : V → H → Option Debt → Prop) : Prop :=
  match kcls x with
  | .quiet => match qval E x fr h d with
    | some v => K v h d
    | none => False
  | .eff => match d with
    | none => xdo E x.o.op fr h fun v h' => K v h' none
    | some dd => match x.o.op with
      | .store t a v => match xstore E t (ev fr a) (ev fr v) h with
        | some h' => K (.tup []) h' (some dd)
        | none => False
      | _ => False
  | .fill v => match d with
    | none => match xfillApp E x.o.op v fr h with
      | some (r, h', dd) => K r h' (some dd)
      | none => False
    | some _ => False
  | .pay => match d, x.o.op with
    | some (id, n, vs), .store t a v => ev fr a = .hole id ∧ (ev fr v).cells = vs ∧ (ev fr v).storable = true ∧ (E.T t).map (·.size) = some vs.length ∧ K (.tup []) h none
    | _, _ => False
def xops (E : Env) (ops : Array Oper) : List XOp → List V → H → Option Debt → (List V → H → Prop) → Prop
  | [], fr, h, d, K => d = none ∧ K fr h
  | x :: rest, fr, h, d, K => match xwant ops x.o fr with
    | some true => xstep E x fr h d fun v h' d' => xops E ops rest (put fr x.o.dst v) h' d' K
    | some false => xops E ops rest (put fr x.o.dst (.tup [])) h d K
    | none => False

/-- the frame -/
def FR (κ : Kp) (fr : List V) (a : Act) : Prop := VRels κ fr a.tmps.toList ∧ a.defers = []
section
variable {E : Env} {κ : Kp} {h : H} {w : World} {fr : List V} {a : Act}
theorem FR.mono {κ' : Kp} (hk : κ.le κ') (F : FR κ fr a) : FR κ' fr a := ⟨F.1.mono hk, F.2⟩
theorem FR.put (F : FR κ fr a) {v : V} {c : Value} (hv : VRel κ v c) (dst : Option Tmp) : FR κ (put fr dst v) (a.put dst c) := by
  cases dst with
  | none => exact F
  | some d => exact ⟨by simpa [Xa.put, Act.put] using F.1.set hv d, F.2⟩
theorem xwant_ok (F : FR κ fr a) {ops : Array Oper} {o : Oper} {b : Bool} (hx : xwant ops o fr = some b) : Region.wanted o (yielded ops a.tmps) = b := by
  unfold xwant at hx
  unfold Region.wanted
  split at hx
  · rename_i hg
    rw [hg]
    exact Option.some.inj hx
  · rename_i j want hg
    rw [hg]
    split at hx
    case h_2 => cases hx
    rename_i t ht
    rw [dstAt_eq] at ht
    simp only [Array.getElem?_toList] at ht
    split at hx
    case isFalse => cases hx
    rename_i hlt
    have hb : fr[t]? = some (ev fr (.tmp t)) := by
      rw [List.getElem?_eq_getElem hlt]
      simp [ev, hlt]
    generalize ev fr (.tmp t) = q at hx hb
    unfold yielded
    unfold want1 at hx
    split at hx
    · rename_i b'
      obtain rfl := Option.some.inj hx
      obtain ⟨c, h1, h2⟩ := F.1.get hb
      cases h2
      simp only [Array.getElem?_toList] at h1
      cases b' <;> cases want <;> simp [ht, h1]
    · rename_i vs
      obtain rfl := Option.some.inj hx
      obtain ⟨c, h1, h2⟩ := F.1.get hb
      simp only [Array.getElem?_toList] at h1
      cases h2
      simp [ht, h1]
    · cases hx
theorem enter_run {P : Program} {f : FuncId} (hE : Enter P f) (args : Array Value) (w : World) : (callFunc f args).run P w = .ok (.enter f args) w := by
  obtain ⟨fn, c, h1, h2, h3⟩ := hE
  have h4 : fn.name ≠ "runtime.NumGoroutine" := by simpa using h3
  simp [callFunc, h1, h4, h2]

/-- One operation, as the model has it. -/
theorem xdo_ok {K : V → H → Prop} {o : Oper} (hx : xdo E o.op fr h K) (hI : E.I κ.w0) (R : Rel E.P κ h w) (F : FR κ fr a) {next : Act → World → Prop} {Q : Exit → Act → World → Prop}
    (hk : ∀ κ' v c h' w', κ.le κ' → VRel κ' v c → Rel E.P κ' h' w' → K v h' → next (a.put o.dst c) w') : o.wp E.P a w next Q := by
  obtain ⟨dst, op, type, pos, after, guard⟩ := o
  dsimp only at hx hk
  unfold xdo at hx
  split at hx
  · rename_i f args argTypes
    split at hx
    case h_2 => exact hx.elim
    rename_i g caps hf
    have hc := ev_rel F.1 f
    rw [hf] at hc
    generalize hq : a.eval f = q at hc
    cases hc with
    | fn g hcaps hone =>
      rename_i cc
      have hrun : (execOp a.eval ⟨dst, .call ⟨.value f, args, argTypes⟩, type, pos, after, guard⟩).run E.P w = .ok (.enter g (args.map a.eval ++ cc.toArray)) w := by
        show (do let d ← resolve a.eval ⟨.value f, args, argTypes⟩ type; invoke d.target d.args : Sem Next).run E.P w = _
        simp only [resolve, hq, Deferred.ofValue]
        simp only [Sem.run_bind, Sem.run_pure, Result.andThen_ok, invoke]
        rw [enter_run hx.1]
        simp
      unfold Oper.wp
      rw [hrun, Oper.upon_enter]
      have hargs : VRels κ (args.toList.map (ev fr) ++ caps) (args.map a.eval ++ cc.toArray).toList := by
        have h1 := VRels.of_map (ev_rel F.1) args.toList
        have := h1.append hcaps
        simpa using this
      refine (hx.2 κ w _ hI R hargs).mono ?_
      rintro e w' ⟨κ', v, c, h', rfl, h1, h2, h3, h4⟩
      exact hk κ' v c h' w' h1 h2 h3 h4
  · split at hx
    case h_2 => exact hx.elim
    rename_i v h' hop
    obtain ⟨n, c, w', κ', h1, h2, h3, h4, h5⟩ := xop_ok R (o := ⟨dst, op, type, pos, after, guard⟩) (ev_rel F.1) hop
    unfold Oper.wp
    rw [h1]
    rcases h2 with rfl | ⟨rfl, rfl⟩
    · exact hk κ' v c h' w' h3 h4 h5 hx
    · exact hk κ' v undef h' w' h3 h4 h5 hx
theorem undef_rel : VRel κ (.tup []) undef := .tup .nil
theorem RelD.w0 {d : Option Debt} (R : RelD E.P κ h w d) : True := trivial
theorem wp_value {o : Oper} {a : Act} {w w' : World} {c : Value} {next : Act → World → Prop} {Q : Exit → Act → World → Prop} (hr : (execOp a.eval o).run E.P w = .ok (.value c) w') (hn : next (a.put o.dst c) w') : o.wp E.P a w next Q := by
  unfold Oper.wp
  rw [hr]
  exact hn
theorem wp_skipv {o : Oper} {a : Act} {w w' : World} {next : Act → World → Prop} {Q : Exit → Act → World → Prop} (hr : (execOp a.eval o).run E.P w = .ok .skip w') (hn : next (a.put o.dst undef) w') : o.wp E.P a w next Q := by
  unfold Oper.wp
  rw [hr]
  exact hn
theorem store_run {o : Oper} {t : TypeId} {x v : Operand} {ρ : Operand → Value} {w w' : World} (ho : o.op = .store t x v) (hr : (Instr.storeAt t (ρ x) (ρ v)).run E.P w = .ok () w') : (execOp ρ o).run E.P w = .ok .skip w' := by
  obtain ⟨dst, op, type, pos, after, guard⟩ := o
  dsimp only at ho
  subst ho
  simp [execOp, hr]
theorem cls_load {op : Op} {t : TypeId} {a : Operand} (h : cls op = .load t a) : op = .load t a := by
  unfold cls at h
  split at h <;> first | (cases h; rfl) | cases h
/-- What does not write: its value, in memory. -/
theorem qval_ok {x : XOp} {d : Option Debt} {v : V} (R : RelD E.P κ h w d) (F : FR κ fr a) (hx : qval E x fr h d = some v) {next : Act → World → Prop} {Q : Exit → Act → World → Prop}
    (hk : ∀ κ' c w', κ.le κ' → VRel κ' v c → RelD E.P κ' h w' d → next (a.put x.o.dst c) w') : x.o.wp E.P a w next Q := by
  have general : qvalN E x.o.op fr h d = some v → x.o.wp E.P a w next Q := by
    intro hx
    unfold qvalN at hx
    split at hx
    · rename_i t ad hc
      cases d with
      | some _ => cases hx
      | none =>
        have hop : xop E x.o.op fr h = some (v, h) := by rw [cls_load hc]; simp only [xop, hx]; rfl
        obtain ⟨n, c, w', κ', h1, h2, h3, h4, h5⟩ := xop_ok R (ev_rel F.1) hop
        rcases h2 with rfl | ⟨rfl, rfl⟩
        · exact wp_value h1 (hk κ' c w' h3 h4 h5)
        · exact wp_skipv h1 (hk κ' undef w' h3 h4 h5)
    · rename_i hc
      cases d with
      | some _ => cases hx
      | none =>
        obtain ⟨⟨v', h'⟩, h1, h2⟩ := map_some hx
        dsimp only at h2
        subst h2
        obtain ⟨n, c, w', κ', h1, h2, h3, h4, h5⟩ := xop_ok R (ev_rel F.1) (pure_any (.inr hc) h1 h)
        rcases h2 with rfl | ⟨rfl, rfl⟩
        · exact wp_value h1 (hk κ' c w' h3 h4 h5)
        · exact wp_skipv h1 (hk κ' undef w' h3 h4 h5)
    · rename_i hc
      cases d with
      | some dd =>
        obtain ⟨c, h1, h2⟩ := xpure_ok R (ev_rel F.1) hc hx
        exact wp_value h1 (hk κ c w (.refl κ) h2 R)
      | none =>
        obtain ⟨⟨v', h'⟩, h1, h2⟩ := map_some hx
        dsimp only at h2
        subst h2
        obtain ⟨c, h3, h4⟩ := pure_run (ev_rel F.1) hc h1 w
        exact wp_value h3 (hk κ c w (.refl κ) h4 R)
    · cases hx
  unfold qval at hx
  split at hx
  · cases d with
    | some _ => cases hx
    | none =>
      obtain ⟨c, w', κ', h1, h2, h3, h4⟩ := xsrc_ok R (ev_rel F.1) hx
      exact wp_value h1 (hk κ' c w' h2 h3 h4)
  · exact general hx
theorem xstep_ok {x : XOp} {d : Option Debt} {K : V → H → Option Debt → Prop} (hx : xstep E x fr h d K) (hI : E.I κ.w0) (R : RelD E.P κ h w d) (F : FR κ fr a) {next : Act → World → Prop} {Q : Exit → Act → World → Prop}
    (hk : ∀ κ' v c h' w' d', κ.le κ' → VRel κ' v c → RelD E.P κ' h' w' d' → K v h' d' → next (a.put x.o.dst c) w') : x.o.wp E.P a w next Q := by
  unfold xstep at hx
  split at hx
  · split at hx
    case h_2 => exact hx.elim
    rename_i v hv
    exact qval_ok R F hv fun κ' c w' h1 h2 h3 => hk κ' v c h w' d h1 h2 h3 hx
  · split at hx
    · exact xdo_ok hx hI R F fun κ' v c h' w' h1 h2 h3 h4 => hk κ' v c h' w' none h1 h2 h3 h4
    · rename_i dd
      split at hx
      case h_2 => exact hx.elim
      rename_i t ad v hop
      split at hx
      case h_2 => exact hx.elim
      rename_i h' hst
      obtain ⟨w', h1, h2⟩ := xstore_owed R (ev_rel F.1 ad) (ev_rel F.1 v) hst
      exact wp_skipv (store_run hop h1) (hk κ _ undef h' w' _ (.refl κ) undef_rel h2 hx)
  · rename_i v _
    split at hx
    case h_2 => exact hx.elim
    split at hx
    case h_2 => exact hx.elim
    rename_i r h' dd hf
    obtain ⟨c, w', κ', h1, h2, h3, h4⟩ := xfillApp_ok R (ev_rel F.1) hf
    exact wp_value h1 (hk κ' r c h' w' _ h2 h3 h4 hx)
  · split at hx
    case h_2 => exact hx.elim
    rename_i id n vs t ad v hop
    obtain ⟨g1, g2, g3, g4, g5⟩ := hx
    have hva := ev_rel F.1 ad
    rw [g1] at hva
    obtain ⟨w', h1, h2⟩ := pay_ok R hva (ev_rel F.1 v) g2 g3 g4
    exact wp_skipv (store_run hop h1) (hk κ _ undef h w' none (.refl κ) undef_rel h2 g5)

theorem xops_ok {ops : Array Oper} {Q : Exit → Act → World → Prop} : ∀ (l : List Nat) (os : List XOp) {K : List V → H → Prop} {κ : Kp} {h : H} {w : World} {fr : List V} {a : Act} {d : Option Debt}, l.map (fun i => ops[i]?) = os.map (fun x => some x.o) → xops E ops os fr h d K → E.I κ.w0 → RelD E.P κ h w d → FR κ fr a →
    (∀ κ' fr' h' w' a', κ.le κ' → FR κ' fr' a' → Rel E.P κ' h' w' → K fr' h' → Q .normal a' w') → wpOps E.P ops Q l a w
  | [], [], K, κ, h, w, fr, a, d, _, hx, hI, R, F, hk => by
    obtain ⟨rfl, hx⟩ := hx
    exact hk κ fr h w a (.refl κ) F R hx
  | [], _ :: _, _, _, _, _, _, _, _, he, _, _, _, _, _ => by simp at he
  | _ :: _, [], _, _, _, _, _, _, _, he, _, _, _, _, _ => by simp at he
  | i :: l, x :: os, K, κ, h, w, fr, a, d, he, hx, hI, R, F, hk => by
    simp only [List.map_cons, List.cons.injEq] at he
    obtain ⟨he1, he2⟩ := he
    simp only [wpOps, he1]
    unfold xops at hx
    split at hx
    · rename_i hw
      rw [xwant_ok F hw, if_pos rfl]
      refine .inl (xstep_ok hx hI R F ?_)
      intro κ' v c h' w' d' h1 h2 h3 h4
      exact xops_ok l os he2 h4 (by rw [h1.w0]; exact hI) h3 ((F.mono h1).put h2 x.o.dst) (fun κ'' fr' h' w' a' g1 g2 g3 g4 => hk κ'' fr' h' w' a' (h1.trans g1) g2 g3 g4)
    · rename_i hw
      rw [xwant_ok F hw, if_neg (by decide)]
      exact xops_ok l os he2 hx hI R (F.put undef_rel x.o.dst) hk
    · exact hx.elim
theorem annot_o : ∀ (ps : List Tmp) (l : List Oper), (annot ps l).map (fun x => x.o) = l
  | _, [] => rfl
  | ps, o :: r => by
    unfold annot
    split
    · split
      · simp [annot_o _ r]
      · simp [annot_o _ r]
    · simp [annot_o _ r]
    · simp [annot_o _ r]
    · simp [annot_o _ r]

inductive XE where
  | normal
  | exit (id : Nat)
  | ret
def lift (E : Env) (κ : Kp) (Q : XE → List V → H → Prop) : Exit → Act → World → Prop := fun e a w =>
  ∃ κ' fr h, κ.le κ' ∧ FR κ' fr a ∧ Rel E.P κ' h w ∧ match e with
    | .normal => Q .normal fr h
    | .exit id => Q (.exit id) fr h
    | .ret => Q .ret fr h
    | _ => False
/-- What a piece of code comes to. -/
def XW (E : Env) (c : Code) (Q : XE → List V → H → Prop) (fr : List V) (h : H) : Prop :=
  ∀ (κ : Kp) (w : World) (a : Act), E.I κ.w0 → Rel E.P κ h w → FR κ fr a → c.wp E.P (lift E κ Q) a w
def seqQ (K : List V → H → Prop) (Q : XE → List V → H → Prop) : XE → List V → H → Prop
  | .normal, fr, h => K fr h
  | e, fr, h => Q e fr h
def blockQ (id : Nat) (Q : XE → List V → H → Prop) : XE → List V → H → Prop
  | .exit i, fr, h => if i = id then Q .normal fr h else Q (.exit i) fr h
  | e, fr, h => Q e fr h
def xcode (E : Env) : Code → (XE → List V → H → Prop) → List V → H → Prop
  | .skip, Q, fr, h => Q .normal fr h
  | .region _ ops false, Q, fr, h => xops E ops (annot [] ops.toList) fr h none (Q .normal)
  | .seq a b, Q, fr, h => xcode E a (seqQ (xcode E b Q) Q) fr h
  | .cond c a b, Q, fr, h => match ev fr c with
    | .lit (.bool t) => if t = true then xcode E a Q fr h else xcode E b Q fr h
    | _ => False
  | .block id c, Q, fr, h => xcode E c (blockQ id Q) fr h
  | .exit id, Q, fr, h => Q (.exit id) fr h
  | .ret, Q, fr, h => Q .ret fr h
  | c, Q, fr, h => XW E c Q fr h

theorem lift_mono {κ' : Kp} (hk : κ.le κ') {Q : XE → List V → H → Prop} {e : Exit} {a : Act} {w : World} (hl : lift E κ' Q e a w) : lift E κ Q e a w := by
  obtain ⟨κ'', fr, h, h1, h2⟩ := hl
  exact ⟨κ'', fr, h, hk.trans h1, h2⟩
theorem lift_imp {Q Q' : XE → List V → H → Prop} {e : Exit} {a : Act} {w : World} (hq : ∀ e fr h, Q e fr h → Q' e fr h) (hl : lift E κ Q e a w) : lift E κ Q' e a w := by
  obtain ⟨κ', fr, h, h1, h2, h3, h4⟩ := hl
  refine ⟨κ', fr, h, h1, h2, h3, ?_⟩
  cases e <;> first | exact hq _ _ _ h4 | exact h4
theorem XW.mono {c : Code} {Q Q' : XE → List V → H → Prop} (hx : XW E c Q fr h) (hq : ∀ e fr h, Q e fr h → Q' e fr h) : XW E c Q' fr h :=
  fun κ w a hI R F => wp_mono (hx κ w a hI R F) fun e a w hl => lift_imp hq hl

theorem XW.seq {c d : Code} {Q : XE → List V → H → Prop} (hx : XW E c (seqQ (fun fr h => XW E d Q fr h) Q) fr h) : XW E (.seq c d) Q fr h := by
  intro κ w a hI R F
  refine wp_seq (wp_mono (hx κ w a hI R F) ?_)
  rintro e a' w' ⟨κ', fr', h', h1, h2, h3, h4⟩
  cases e with
  | normal => exact wp_mono (h4 κ' w' a' (by rw [h1.w0]; exact hI) h3 h2) fun e a w hl => lift_mono h1 hl
  | exit id => exact ⟨κ', fr', h', h1, h2, h3, h4⟩
  | ret => exact ⟨κ', fr', h', h1, h2, h3, h4⟩
  | goto l => exact h4.elim
  | panic c => exact h4.elim
  | outgrown => exact h4.elim
theorem XW.block {id : Nat} {c : Code} {Q : XE → List V → H → Prop} (hx : XW E c (blockQ id Q) fr h) : XW E (.block id c) Q fr h := by
  intro κ w a hI R F
  refine wp_block (wp_mono (hx κ w a hI R F) ?_)
  rintro e a' w' ⟨κ', fr', h', h1, h2, h3, h4⟩
  cases e with
  | normal => exact ⟨κ', fr', h', h1, h2, h3, h4⟩
  | exit i =>
    show if i = id then _ else _
    change if i = id then _ else _ at h4
    split
    · rename_i e; rw [if_pos e] at h4; exact ⟨κ', fr', h', h1, h2, h3, h4⟩
    · rename_i e; rw [if_neg e] at h4; exact ⟨κ', fr', h', h1, h2, h3, h4⟩
  | ret => exact ⟨κ', fr', h', h1, h2, h3, h4⟩
  | goto l => exact h4.elim
  | panic c => exact h4.elim
  | outgrown => exact h4.elim
/-- The computing form is true. -/
theorem xcode_ok : ∀ (c : Code) {Q : XE → List V → H → Prop} {fr : List V} {h : H}, xcode E c Q fr h → XW E c Q fr h
  | .skip, Q, fr, h, hx => fun κ w a hI R F => wp_skip ⟨κ, fr, h, .refl κ, F, R, hx⟩
  | .region id ops false, Q, fr, h, hx => fun κ w a hI R F => wp_region (xops_ok (d := none) (List.range ops.size) (annot [] ops.toList) (by
      have e : (annot [] ops.toList).map (fun x => some x.o) = ops.toList.map some := by
        have := congrArg (List.map some) (annot_o [] ops.toList)
        rw [List.map_map] at this
        exact this
      rw [e]
      apply List.ext_getElem?
      intro i
      by_cases hi : i < ops.size
      · simp [List.getElem?_range hi, hi]
      · have h1 : (List.range ops.size)[i]? = none := List.getElem?_eq_none (by simp; omega)
        have h2 : ops.toList[i]? = none := List.getElem?_eq_none (by simp; omega)
        simp only [List.getElem?_map, h1, h2, Option.map_none]) hx hI R F (fun κ' fr' h' w' a' h1 h2 h3 h4 => ⟨κ', fr', h', h1, h2, h3, h4⟩))
  | .seq c d, Q, fr, h, hx => by
    refine XW.seq (XW.mono (xcode_ok c hx) ?_)
    intro e fr' h' hq
    cases e with
    | normal => exact xcode_ok d hq
    | exit id => exact hq
    | ret => exact hq
  | .cond c x y, Q, fr, h, hx => fun κ w a hI R F => by
    unfold xcode at hx
    split at hx
    case h_2 => exact hx.elim
    rename_i t ht
    have hc := ev_rel F.1 c
    rw [ht] at hc
    generalize hq : a.eval c = q at hc
    cases hc
    refine wp_cond hq ?_
    cases t with
    | true => exact xcode_ok x (by simpa using hx) κ w a hI R F
    | false => exact xcode_ok y (by simpa using hx) κ w a hI R F
  | .block id c, Q, fr, h, hx => XW.block (xcode_ok c hx)
  | .scope _, Q, fr, h, hx => hx
  | .exit id, Q, fr, h, hx => fun κ w a hI R F => wp_exit ⟨κ, fr, h, .refl κ, F, R, hx⟩
  | .ret, Q, fr, h, hx => fun κ w a hI R F => wp_ret ⟨κ, fr, h, .refl κ, F, R, hx⟩
  | .region _ _ true, Q, fr, h, hx => hx
  | .loop c, Q, fr, h, hx => hx
  | .rangeFunc _ _ _ _, Q, fr, h, hx => hx
  | .label _, Q, fr, h, hx => hx
  | .goto _, Q, fr, h, hx => hx
  | .refuse _, Q, fr, h, hx => hx

/-- A loop: J n holds at each round's head, n sinks. -/
theorem XW.loop {c : Code} {Q : XE → List V → H → Prop} (J : Nat → List V → H → Prop) (n : Nat) (h0 : J n fr h)
    (round : ∀ n fr h, J n fr h → xcode E c (seqQ (fun fr' h' => ∃ m, m < n ∧ J m fr' h') Q) fr h) : XW E (.loop c) Q fr h := by
  intro κ w a hI R F
  refine wp_loop_ghost (fun n a w => ∃ κ' fr h, κ.le κ' ∧ FR κ' fr a ∧ Rel E.P κ' h w ∧ J n fr h) n ⟨κ, fr, h, .refl κ, F, R, h0⟩ ?_
  rintro n a w ⟨κ', fr', h', h1, h2, h3, h4⟩
  refine wp_mono (xcode_ok c (round n fr' h' h4) κ' w a (by rw [h1.w0]; exact hI) h3 h2) ?_
  rintro e a' w' ⟨κ'', fr'', h'', g1, g2, g3, g4⟩
  cases e with
  | normal =>
    obtain ⟨m, hm, hJ⟩ := g4
    exact ⟨m, hm, κ'', fr'', h'', h1.trans g1, g2, g3, hJ⟩
  | exit id => exact ⟨κ'', fr'', h'', h1.trans g1, g2, g3, g4⟩
  | ret => exact ⟨κ'', fr'', h'', h1.trans g1, g2, g3, g4⟩
  | goto l => exact g4.elim
  | panic c => exact g4.elim
  | outgrown => exact g4.elim

/-- results -/
def xres (E : Env) (fr : List V) (h : H) : List ResultVar → Option (List V)
  | [] => some []
  | .tmp t :: r => (xres E fr h r).map (fr.getD t (.tup []) :: ·)
  | .cell a t :: r => match xload E t (fr.getD a (.tup [])) h, xres E fr h r with
    | some v, some l => some (v :: l)
    | _, _ => none
def resOf (a : Act) : ResultVar → Sem Value
  | .tmp t => pure (a.tmps.getD t undef)
  | .cell x t => do loadVar t (← asAddr (a.tmps.getD x undef))
theorem results_eq (fn : Func) (a : Act) : results fn a.tmps = (do let vs ← fn.results.mapM (resOf a); pure (if h : vs.size = 1 then vs[0] else .tuple vs)) := by
  have e : (fun x => (match x with | .tmp t => pure (a.tmps.getD t undef) | .cell x t => do loadVar t (← asAddr (a.tmps.getD x undef)) : Sem Value)) = resOf a := by
    funext x
    cases x <;> rfl
  unfold results
  rw [← e]
  rfl
def xresult (l : List V) : V := match l with | [v] => v | l => .tup l
theorem xres_ok (R : Rel E.P κ h w) (F : FR κ fr a) : ∀ (rs : List ResultVar) {l : List V}, xres E fr h rs = some l →
    ∃ cs, (rs.mapM (resOf a)).run E.P w = .ok cs w ∧ VRels κ l cs
  | [], l, hx => by
    simp only [xres, Option.some.injEq] at hx
    subst hx
    exact ⟨[], by simp, .nil⟩
  | .tmp t :: r, l, hx => by
    simp only [xres] at hx
    obtain ⟨l', h1, rfl⟩ := map_some hx
    obtain ⟨cs, h2, h3⟩ := xres_ok R F r h1
    have hv := ev_rel F.1 (.tmp t)
    exact ⟨_, by simp only [List.mapM_cons, Sem.run_bind, resOf, Sem.run_pure, Result.andThen_ok, h2]; rfl, .cons hv h3⟩
  | .cell x t :: r, l, hx => by
    simp only [xres] at hx
    split at hx
    case h_2 => cases hx
    rename_i v l' h1 h1'
    obtain rfl := Option.some.inj hx
    obtain ⟨cs, h2, h3⟩ := xres_ok R F r h1'
    have hv := ev_rel F.1 (.tmp x)
    obtain ⟨c, h4, h5⟩ := xload_ok R hv h1
    have h6 : ∃ p, a.tmps.getD x undef = .pointer (some p) := by
      change VRel κ (fr.getD x (.tup [])) (a.tmps.getD x undef) at hv
      generalize a.tmps.getD x undef = q at hv ⊢
      generalize fr.getD x (.tup []) = q2 at hv h1
      cases hv <;> simp [xload] at h1 <;> first | exact ⟨_, rfl⟩ | skip
    obtain ⟨p, hp⟩ := h6
    change (Instr.loadAt t (a.tmps.getD x undef)).run E.P w = .ok c w at h4
    rw [hp] at h4
    simp only [Instr.loadAt, Instr.sureAddr, Sem.run_bind, Sem.run_pure, Result.andThen_ok] at h4
    refine ⟨c :: cs, ?_, .cons h5 h3⟩
    have h7 : (resOf a (.cell x t)).run E.P w = .ok c w := by simp only [resOf, Sem.run_bind, hp, asAddr, Sem.run_pure, Result.andThen_ok, h4]
    simp only [List.mapM_cons, Sem.run_bind, h7, Sem.run_pure, Result.andThen_ok, h2]
theorem results_ok (R : Rel E.P κ h w) (F : FR κ fr a) {fn : Func} {l : List V} (hx : xres E fr h fn.results.toList = some l) : ∃ c, (results fn a.tmps).run E.P w = .ok c w ∧ VRel κ (xresult l) c := by
  obtain ⟨cs, h1, h2⟩ := xres_ok R F _ hx
  have h3 : (fn.results.mapM (resOf a)).run E.P w = .ok cs.toArray w := by
    rw [Array.mapM_eq_mapM_toList]
    simp only [Sem.run_map, h1, Result.andThen_ok]
  rw [results_eq]
  simp only [Sem.run_bind, h3, Result.andThen_ok, Sem.run_pure]
  refine ⟨_, rfl, ?_⟩
  cases h2 with
  | nil => exact .tup .nil
  | cons hv ht =>
    cases ht with
    | nil => exact hv
    | cons hv2 ht2 => exact .tup (.cons hv (.cons hv2 ht2))
def retQ (E : Env) (fn : Func) (Q : V → H → Prop) : XE → List V → H → Prop
  | .exit _, _, _ => False
  | _, fr, h => match xres E fr h fn.results.toList with
    | some l => Q (xresult l) h
    | none => False
/-- A function by its body. -/
theorem XCalls.body {f : FuncId} {fn : Func} {c : Code} {args : List V} {Q : V → H → Prop} (hf : E.P.funcs[f]? = some fn) (hb : fn.body = some c) (hn : (fn.name == "runtime.NumGoroutine") = false)
    (hx : XW E c (retQ E fn Q) (args ++ List.replicate (fn.ntmps - args.length) (.tup [])) h) : XCalls E f args h Q := by
  refine ⟨⟨fn, c, hf, hb, hn⟩, fun κ w cargs hI R ha => ?_⟩
  refine calls_of_wp hf hb (wp_mono (hx κ w _ hI R ⟨?_, rfl⟩) ?_)
  · have hl : args.length = cargs.size := by rw [ha.length]; simp
    have := ha.append (VRels.replicate (κ := κ) (fn.ntmps - args.length) undef_rel)
    rw [hl] at this ⊢
    simpa using this
  · rintro e a w' ⟨κ', fr', h', h1, h2, h3, h4⟩
    cases e with
    | normal =>
      change (match xres E fr' h' fn.results.toList with | some l => Q (xresult l) h' | none => False) at h4
      split at h4
      case h_2 => exact h4.elim
      rename_i l hl
      obtain ⟨cc, h5, h6⟩ := results_ok h3 h2 hl
      exact ⟨h2.2, cc, h5, κ', _, cc, h', rfl, h1, h6, h3, h4⟩
    | ret =>
      change (match xres E fr' h' fn.results.toList with | some l => Q (xresult l) h' | none => False) at h4
      split at h4
      case h_2 => exact h4.elim
      rename_i l hl
      obtain ⟨cc, h5, h6⟩ := results_ok h3 h2 hl
      exact ⟨h2.2, cc, h5, κ', _, cc, h', rfl, h1, h6, h3, h4⟩
    | exit id => exact h4.elim
    | goto l => exact h4.elim
    | panic c => exact h4.elim
    | outgrown => exact h4.elim
end
end Go.Proofs.YtjofmihdeblbmaaGreatDoor.Xa

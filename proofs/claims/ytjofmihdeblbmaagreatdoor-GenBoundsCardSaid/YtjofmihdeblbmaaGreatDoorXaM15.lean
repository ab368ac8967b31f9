/- XA, joined: XaK. -/
import Derived.Test.YtjofmihdeblbmaaGreatDoorXaM14
/- XA, part K: a region that draws its order. One order is walked (what writes comes as late as it may); where a load may come behind a write as well, it must find the same there. -/
namespace Go.Proofs.YtjofmihdeblbmaaGreatDoor.Xa
open Go Go.RowKit
set_option linter.unusedVariables false
set_option linter.unusedSimpArgs false

def isQuiet (x : XOp) : Bool := match kcls x with | .quiet => true | _ => false
/-- pure, and the same whether an element is owed or not -/
def simplePure (x : XOp) : Bool := match x.kind with
  | .norm => match x.o.op with
    | .indexAddr .. => false
    | op => match cls op with | .pure => true | _ => false
  | _ => false
def isStore : Op → Bool | .store .. => true | _ => false
def XOp.looks (ops : Array Oper) (x : XOp) : List Tmp := x.o.looksAt ops ++ (match x.kind with | .fill (.tmp t) => [t] | _ => [])
def apartX (ops : Array Oper) (x y : XOp) : Bool :=
  (match x.o.dst with
   | some d => !(y.looks ops).contains d && y.o.dst != some d
   | none => true) &&
  (match y.o.dst with
   | some d => !(x.looks ops).contains d
   | none => true)
def fillPay (x : XOp) : Bool := match kcls x with | .fill _ => true | .pay => true | _ => false
/-- x, walked ahead of y, may come behind it -/
def mayPass (ops : Array Oper) (x y : XOp) : Bool :=
  apartX ops x y && ((isQuiet x && (!fillPay y || simplePure x)) || ((match kcls x with | .pay => true | _ => false) && (match kcls y with | .eff => isStore y.o.op | _ => false)))

/-- which operations must come ahead: by bits -/
def preds (o : Oper) : List Nat := (o.after.toList.filter fun e => Region.binds .any e).map (·.on)
def cloStep (ops : Array Oper) (acc : List Nat) (i : Nat) : List Nat :=
  match ops[i]? with
  | some o => acc.set i ((preds o).foldl (fun m k => m ||| 2 ^ k ||| acc.getD k 0) 0)
  | none => acc
def clo (ops : Array Oper) (L : List Nat) : List Nat := L.foldl (cloStep ops) (List.replicate ops.size 0)
def pairsOk (ops : Array Oper) (X : List XOp) (B : List Nat) : List Nat → Bool
  | [] => true
  | i :: r => (r.all fun k => (B.getD k 0).testBit i || (match X[i]?, X[k]? with
      | some x, some y => mayPass ops x y
      | _, _ => false)) && pairsOk ops X B r
def linearOk (ops : Array Oper) : List Nat → List Nat → Bool
  | _, [] => true
  | seen, i :: r => (match ops[i]? with
      | some o => (preds o).all fun k => seen.contains k
      | none => false) && !seen.contains i && linearOk ops (i :: seen) r
def drawOk (ops : Array Oper) (L : List Nat) : Bool :=
  linearOk ops [] L && pairsOk ops (annot [] ops.toList) (clo ops L) L && (List.range ops.size).all (fun i => L.contains i) && L.all (fun i => decide (i < ops.size)) && Region.noSelect ops
/-- the order that is walked -/
def canonGo (ops : Array Oper) (X : List XOp) : Nat → List Nat → List Nat
  | 0, _ => []
  | n + 1, seen =>
    let ready := (List.range ops.size).filter fun i => !seen.contains i && (match ops[i]? with | some o => (preds o).all fun k => seen.contains k | none => false)
    match ready.find? (fun i => match X[i]? with | some x => isQuiet x | none => false) with
    | some i => i :: canonGo ops X n (i :: seen)
    | none => match ready with
      | i :: _ => i :: canonGo ops X n (i :: seen)
      | [] => []
def canon (ops : Array Oper) : List Nat := canonGo ops (annot [] ops.toList) ops.size []

structure Pend where
  k : Nat
  t : TypeId
  a : V
  v : V
def pendOk (E : Env) (b : Nat) (h : H) : List Pend → Prop
  | [] => True
  | p :: r => (b.testBit p.k = false → xload E p.t p.a h = some p.v) ∧ pendOk E b h r
def pendOf (x : XOp) (i : Nat) (fr : List V) (v : V) : List Pend :=
  match x.kind with
  | .norm => match x.o.op with
    | .load t a => [⟨i, t, ev fr a, v⟩]
    | _ => []
  | _ => []
def sideOk (E : Env) (x : XOp) (b : Nat) (h : H) (pd : List Pend) : Prop :=
  match kcls x with
  | .eff => pendOk E b h pd
  | _ => True
/-- The walk in that order. -/
def xd (E : Env) (ops : Array Oper) (B : List Nat) : List (Nat × XOp) → List V → H → List Pend → Option Debt → (List V → H → Prop) → Prop
  | [], fr, h, pd, d, K => d = none ∧ K fr h
  | (i, x) :: L, fr, h, pd, d, K => match xwant ops x.o fr with
    | some true => xstep E x fr h d fun v h' d' => sideOk E x (B.getD i 0) h' pd ∧ xd E ops B L (put fr x.o.dst v) h' (pendOf x i fr v ++ pd) d' K
    | some false => xd E ops B L (put fr x.o.dst (.tup [])) h pd d K
    | none => False
section
variable {E : Env} {ops : Array Oper} {B : List Nat}
theorem pendOk_iff {b : Nat} {h : H} {pd : List Pend} : pendOk E b h pd ↔ ∀ p ∈ pd, b.testBit p.k = false → xload E p.t p.a h = some p.v := by
  induction pd with
  | nil => simp [pendOk]
  | cons p r ih => simp [pendOk, ih]
theorem sideOk_sub {x : XOp} {b : Nat} {h : H} {pd pd' : List Pend} (hp : ∀ p ∈ pd', p ∈ pd) (hs : sideOk E x b h pd) : sideOk E x b h pd' := by
  unfold sideOk at hs ⊢
  split
  · rename_i hk
    rw [hk] at hs
    exact pendOk_iff.2 fun p hm => pendOk_iff.1 hs p (hp p hm)
  · trivial
theorem xdo_mono {op : Op} {fr : List V} {h : H} {K K' : V → H → Prop} (hx : xdo E op fr h K) (hk : ∀ v h', K v h' → K' v h') : xdo E op fr h K' := by
  unfold xdo at hx ⊢
  split at hx
  · split at hx
    · exact hx.mono hk
    · exact hx.elim
  · split at hx
    · exact hk _ _ hx
    · exact hx.elim
/-- what a step leaves as it was -/
def stepInfo (x : XOp) (h : H) (d : Option Debt) (h' : H) (d' : Option Debt) : Prop :=
  match kcls x with
  | .quiet => h' = h ∧ d' = d
  | .eff => d' = d
  | _ => True
theorem xstep_mono {x : XOp} {fr : List V} {h : H} {d : Option Debt} {K K' : V → H → Option Debt → Prop} (hx : xstep E x fr h d K) (hk : ∀ v h' d', stepInfo x h d h' d' → K v h' d' → K' v h' d') : xstep E x fr h d K' := by
  unfold xstep at hx ⊢
  unfold stepInfo at hk
  cases hc : kcls x with
  | quiet =>
    rw [hc] at hx hk
    dsimp only at hx hk ⊢
    cases hq : qval E x fr h d with
    | none => rw [hq] at hx; exact hx
    | some v => rw [hq] at hx; exact hk v h d ⟨rfl, rfl⟩ hx
  | eff =>
    rw [hc] at hx hk
    dsimp only at hx hk ⊢
    cases d with
    | none => exact xdo_mono hx fun v h' g => hk v h' none rfl g
    | some dd =>
      dsimp only at hx ⊢
      split at hx
      · split at hx
        · exact hk _ _ _ rfl hx
        · exact hx.elim
      · exact hx.elim
  | fill v =>
    rw [hc] at hx hk
    dsimp only at hx hk ⊢
    cases d with
    | some dd => exact hx
    | none =>
      dsimp only at hx ⊢
      split at hx
      · exact hk _ _ _ trivial hx
      · exact hx.elim
  | pay =>
    rw [hc] at hx hk
    dsimp only at hx hk ⊢
    split at hx
    · obtain ⟨g1, g2, g3, g4, g5⟩ := hx
      exact ⟨g1, g2, g3, g4, hk _ _ _ trivial g5⟩
    · exact hx.elim
theorem xd_pend : ∀ (L : List (Nat × XOp)) {fr : List V} {h : H} {pd pd' : List Pend} {d : Option Debt} {K : List V → H → Prop}, (∀ p ∈ pd', p ∈ pd) → xd E ops B L fr h pd d K → xd E ops B L fr h pd' d K
  | [], fr, h, pd, pd', d, K, _, hx => hx
  | (i, x) :: L, fr, h, pd, pd', d, K, hp, hx => by
    unfold xd at hx ⊢
    split at hx
    · refine xstep_mono hx ?_
      rintro v h' d' _ ⟨h1, h2⟩
      refine ⟨sideOk_sub hp h1, xd_pend L (fun p hm => ?_) h2⟩
      rcases List.mem_append.1 hm with hm | hm
      · exact List.mem_append_left _ hm
      · exact List.mem_append_right _ (hp p hm)
    · exact xd_pend L hp hx
    · exact hx.elim

theorem ev_put {fr : List V} {dst : Option Tmp} {v : V} {x : Operand} (hx : ∀ d, dst = some d → x ≠ .tmp d) : ev (put fr dst v) x = ev fr x := by
  cases dst with
  | none => rfl
  | some d =>
    cases x with
    | tmp t =>
      have hne : d ≠ t := fun e => hx d rfl (e ▸ rfl)
      simp [ev, put, List.getElem?_set_ne hne]
    | _ => rfl
theorem put_comm {fr : List V} {x y : Option Tmp} {v u : V} (h : ∀ d, x = some d → y ≠ some d) : put (put fr x v) y u = put (put fr y u) x v := by
  cases x with
  | none => rfl
  | some d =>
    cases y with
    | none => rfl
    | some e =>
      have hne : d ≠ e := fun he => h d rfl (he ▸ rfl)
      simp only [put]
      exact List.set_comm _ _ hne
theorem map_congr' {α β : Type} {f g : α → β} {l : List α} (h : ∀ x ∈ l, f x = g x) : l.map f = l.map g := List.map_congr_left h
theorem xop_congr {op : Op} {fr fr' : List V} {h : H} (he : ∀ x ∈ op.operands, ev fr x = ev fr' x) : xop E op fr h = xop E op fr' h := by
  have pairs : ∀ ps : Array (Nat × Operand), (∀ x ∈ (ps.toList.map (·.2)).toArray, ev fr x = ev fr' x) → (ps.toList.map fun p => (p.1, ev fr p.2)) = ps.toList.map fun p => (p.1, ev fr' p.2) := fun ps hp =>
    List.map_congr_left fun p hm => by rw [hp p.2 (by simp only [List.mem_toArray]; exact List.mem_map_of_mem hm)]
  cases op <;> simp only [Op.operands] at he <;> simp only [xop]
  case move x => rw [he x (by simp)]
  case assign x => rw [he x (by simp)]
  case pick c a b => rw [he c (by simp), he a (by simp), he b (by simp)]
  case box t x => rw [he x (by simp)]
  case build t ps => rw [pairs ps he]
  case buildSlice t n ps => rw [pairs ps he]
  case load t a => rw [he a (by simp)]
  case store t a x => rw [he a (by simp), he x (by simp)]
  case nilCheck x => rw [he x (by simp)]
  case binOp op t x y yt => rw [he x (by simp), he y (by simp)]
  case unOp op t x => rw [he x (by simp)]
  case convert s d x => rw [he x (by simp)]
  case fieldAddr s x f => rw [he x (by simp)]
  case field s x f => rw [he x (by simp)]
  case indexAddr t x i => rw [he x (by simp), he i (by simp)]
  case index t x i => rw [he x (by simp), he i (by simp)]
  case slice t x lo hi mx => cases lo <;> cases hi <;> cases mx <;> simp_all
  case extract x i => rw [he x (by simp)]
  case makeSlice t l c => rw [he l (by simp), he c (by simp)]
  case makeMap t r => cases r <;> rfl
  case lookup t x i ok => rw [he x (by simp), he i (by simp)]
  case mapUpdate t m k x => rw [he m (by simp), he k (by simp), he x (by simp)]
  case makeFunc fn first caps =>
    cases fn with
    | func f =>
      dsimp only
      rw [List.map_congr_left (l := caps.toList) (f := ev fr) (g := ev fr') (fun x hx => he x (by simp; exact .inr (by simpa using hx)))]
    | _ => rfl
  case call c =>
    obtain ⟨callee, args, ts⟩ := c
    cases callee with
    | builtin b =>
      dsimp only
      rw [List.map_congr_left (l := args.toList) (f := ev fr) (g := ev fr') (fun x hx => he x (by simp only [Call.operands]; simpa using hx))]
    | _ => rfl
theorem xdo_congr {op : Op} {fr fr' : List V} {h : H} {K : V → H → Prop} (he : ∀ x ∈ op.operands, ev fr x = ev fr' x) (hx : xdo E op fr h K) : xdo E op fr' h K := by
  have hop := xop_congr (E := E) (h := h) he
  unfold xdo at hx ⊢
  split at hx
  · rename_i f args ts
    have hf : ev fr f = ev fr' f := he f (by simp [Op.operands, Call.operands])
    have ha : args.toList.map (ev fr) = args.toList.map (ev fr') := List.map_congr_left fun x hx => he x (by simp only [Op.operands, Call.operands]; simp; exact .inr (by simpa using hx))
    rw [hf, ha] at hx
    exact hx
  · rw [hop] at hx
    split at hx
    · exact hx
    · exact hx.elim
theorem looks_op {o : Oper} {d : Tmp} (h : d ∉ o.looksAt ops) : ∀ x ∈ o.op.operands, x ≠ .tmp d := fun x hx e => h (List.mem_append_left _ (List.mem_filterMap.2 ⟨.tmp d, by subst e; simpa using hx, rfl⟩))
theorem xwant_put {o : Oper} {fr : List V} {dst : Option Tmp} {v : V} (h : ∀ d, dst = some d → d ∉ o.looksAt ops) : xwant ops o (put fr dst v) = xwant ops o fr := by
  cases dst with
  | none => rfl
  | some d =>
    unfold xwant
    cases hg : o.guard with
    | none => rfl
    | some gw =>
      obtain ⟨g, want⟩ := gw
      dsimp only
      cases ht : dstAt ops.toList g with
      | none => rfl
      | some t =>
        rw [dstAt_eq] at ht
        have ht' : (ops[g]?).bind (·.dst) = some t := by simpa using ht
        have hne : d ≠ t := fun e => h d rfl (by subst e; simp [Oper.looksAt, hg, ht'])
        have e1 : ev (put fr (some d) v) (.tmp t) = ev fr (.tmp t) := ev_put fun d' hd e => by
          obtain rfl := Option.some.inj hd
          exact hne (by cases e; rfl)
        dsimp only
        rw [e1]
        simp [put]
/-- the operands that a step looks at -/
def SameOn (ops : Array Oper) (x : XOp) (fr fr' : List V) : Prop := (∀ y ∈ x.o.op.operands, ev fr y = ev fr' y) ∧ ∀ v, x.kind = .fill v → ev fr v = ev fr' v
theorem same_put {x : XOp} {fr : List V} {dst : Option Tmp} {v : V} (h : ∀ d, dst = some d → d ∉ x.looks ops) : SameOn ops x (put fr dst v) fr := by
  refine ⟨fun y hy => ev_put fun d hd => looks_op (fun hm => h d hd (List.mem_append_left _ hm)) y hy, fun u hu => ev_put fun d hd e => h d hd (List.mem_append_right _ ?_)⟩
  rw [hu, e]
  simp
theorem SameOn.symm {x : XOp} {fr fr' : List V} (h : SameOn ops x fr fr') : SameOn ops x fr' fr := ⟨fun y hy => (h.1 y hy).symm, fun v hv => (h.2 v hv).symm⟩
theorem xsrc_congr {op : Op} {fr fr' : List V} (he : ∀ x ∈ op.operands, ev fr x = ev fr' x) : xsrc E op fr = xsrc E op fr' := by
  unfold xsrc
  split
  · rename_i t n ps
    have : (ps.toList.map fun p => (p.1, ev fr p.2)) = ps.toList.map fun p => (p.1, ev fr' p.2) :=
      List.map_congr_left fun p hm => by rw [he p.2 (by simp only [Op.operands, List.mem_toArray]; exact List.mem_map_of_mem hm)]
    rw [this]
  · rfl
theorem xpure_congr {op : Op} {fr fr' : List V} {h : H} {d : Debt} (he : ∀ x ∈ op.operands, ev fr x = ev fr' x) : xpure E op fr h d = xpure E op fr' h d := by
  unfold xpure
  split
  · rename_i t a i
    rw [he a (by simp [Op.operands]), he i (by simp [Op.operands])]
  · rw [xop_congr he]
theorem qval_congr {x : XOp} {fr fr' : List V} {h : H} {d : Option Debt} (he : SameOn ops x fr fr') : qval E x fr h d = qval E x fr' h d := by
  have hN : qvalN E x.o.op fr h d = qvalN E x.o.op fr' h d := by
    unfold qvalN
    cases hc : cls x.o.op with
    | load t a =>
      have := cls_load hc
      have h1 : ev fr a = ev fr' a := he.1 a (by rw [this]; simp [Op.operands])
      dsimp only
      rw [h1]
    | rd => dsimp only; rw [xop_congr he.1]
    | pure =>
      dsimp only
      rw [xop_congr he.1]
      cases d with
      | none => rfl
      | some dd => dsimp only; rw [xpure_congr he.1]
    | eff => rfl
  unfold qval
  rw [xsrc_congr he.1, hN]
theorem xfill_congr {x : XOp} {v : Operand} {fr fr' : List V} {h : H} (he : SameOn ops x fr fr') (hk : x.kind = .fill v) : xfillApp E x.o.op v fr h = xfillApp E x.o.op v fr' h := by
  unfold xfillApp
  split
  · rename_i args ts hop
    split
    · rename_i t t' s y hts hargs
      have h1 : ev fr s = ev fr' s := he.1 s (by rw [hop]; simp only [Op.operands, Call.operands]; simp; rw [← Array.mem_toList_iff, hargs]; simp)
      have h2 : ev fr y = ev fr' y := he.1 y (by rw [hop]; simp only [Op.operands, Call.operands]; simp; rw [← Array.mem_toList_iff, hargs]; simp)
      rw [h1, h2, he.2 v hk]
    · rfl
  · rfl
theorem kcls_fill {x : XOp} {v : Operand} (h : kcls x = .fill v) : x.kind = .fill v := by
  unfold kcls at h
  split at h <;> first | (cases h; done) | skip
  · rename_i u hu; cases h; exact hu
  · split at h <;> cases h
theorem xstep_congr {x : XOp} {fr fr' : List V} {h : H} {d : Option Debt} {K : V → H → Option Debt → Prop} (he : SameOn ops x fr fr') (hx : xstep E x fr h d K) : xstep E x fr' h d K := by
  unfold xstep at hx ⊢
  cases hc : kcls x with
  | quiet => rw [hc] at hx; dsimp only at hx ⊢; rw [← qval_congr he]; exact hx
  | eff =>
    rw [hc] at hx
    dsimp only at hx ⊢
    cases d with
    | none => exact xdo_congr he.1 hx
    | some dd =>
      dsimp only at hx ⊢
      split at hx
      · rename_i t a v hop
        have h1 : ev fr a = ev fr' a := he.1 a (by rw [hop]; simp [Op.operands])
        have h2 : ev fr v = ev fr' v := he.1 v (by rw [hop]; simp [Op.operands])
        rw [h1, h2] at hx
        exact hx
      · exact hx.elim
  | fill v =>
    rw [hc] at hx
    dsimp only at hx ⊢
    cases d with
    | some dd => exact hx
    | none => dsimp only at hx ⊢; rw [← xfill_congr he (kcls_fill hc)]; exact hx
  | pay =>
    rw [hc] at hx
    dsimp only at hx ⊢
    split at hx
    · rename_i id n vs t a v hop
      have h1 : ev fr a = ev fr' a := he.1 a (by rw [hop]; simp [Op.operands])
      have h2 : ev fr v = ev fr' v := he.1 v (by rw [hop]; simp [Op.operands])
      rw [h1, h2] at hx
      exact hx
    · exact hx.elim
theorem pendOf_congr {x : XOp} {i : Nat} {fr fr' : List V} {v : V} (he : SameOn ops x fr fr') : pendOf x i fr v = pendOf x i fr' v := by
  unfold pendOf
  split
  · split
    · rename_i t a hop
      rw [he.1 a (by rw [hop]; simp [Op.operands])]
    · rfl
  · rfl
theorem apartX_spec {x y : XOp} (h : apartX ops x y = true) : (∀ d, x.o.dst = some d → d ∉ y.looks ops) ∧ (∀ d, x.o.dst = some d → y.o.dst ≠ some d) ∧ (∀ d, y.o.dst = some d → d ∉ x.looks ops) := by
  unfold apartX at h
  refine ⟨fun d hd => ?_, fun d hd => ?_, fun d hd => ?_⟩ <;> simp [hd] at h
  · exact h.1.1
  · exact h.1.2
  · exact h.2
theorem quiet_kind {x : XOp} (hq : isQuiet x = true) : x.kind = .norm ∨ x.kind = .src := by
  unfold isQuiet kcls at hq
  cases hk : x.kind with
  | norm => exact .inl rfl
  | src => exact .inr rfl
  | fill v => rw [hk] at hq; cases hq
  | pay => rw [hk] at hq; cases hq
theorem quiet_cls {x : XOp} (hq : isQuiet x = true) : kcls x = .quiet := by
  unfold isQuiet at hq
  cases hk : kcls x with
  | quiet => rfl
  | eff => rw [hk] at hq; cases hq
  | fill v => rw [hk] at hq; cases hq
  | pay => rw [hk] at hq; cases hq
theorem pure_heap {x : XOp} {fr : List V} {h : H} {d : Option Debt} {v : V} (hc : cls x.o.op = .pure) (hv : qvalN E x.o.op fr h d = some v) (h' : H) : qvalN E x.o.op fr h' d = some v := by
  unfold qvalN at hv ⊢
  rw [hc] at hv ⊢
  dsimp only at hv ⊢
  cases d with
  | none =>
    obtain ⟨⟨v', h2⟩, h3, h4⟩ := map_some hv
    dsimp only at h4
    subst h4
    dsimp only
    rw [pure_any (.inl hc) h3 h']; rfl
  | some dd =>
    dsimp only at hv ⊢
    unfold xpure at hv ⊢
    split at hv
    · exact hv
    · obtain ⟨⟨v', h2⟩, h3, h4⟩ := map_some hv
      dsimp only at h4
      subst h4
      rw [pure_any (.inl hc) h3 h']; rfl
/-- What is quiet and no load does not look at the heap. -/
theorem qval_heap {x : XOp} {fr : List V} {h : H} {d : Option Debt} {v : V} (hq : isQuiet x = true) (hv : qval E x fr h d = some v) (h' : H) (hl : ∀ p ∈ pendOf x 0 fr v, xload E p.t p.a h' = some p.v) : qval E x fr h' d = some v := by
  unfold qval at hv ⊢
  rcases quiet_kind hq with hk | hk
  · rw [hk] at hv ⊢
    dsimp only at hv ⊢
    cases hc : cls x.o.op with
    | pure => exact pure_heap hc hv h'
    | eff => unfold qvalN at hv; rw [hc] at hv; cases hv
    | load t a =>
      unfold qvalN at hv ⊢
      rw [hc] at hv ⊢
      dsimp only at hv ⊢
      cases d with
      | some dd => cases hv
      | none => exact hl ⟨0, t, ev fr a, v⟩ (by simp [pendOf, hk, cls_load hc])
    | rd =>
      unfold qvalN at hv ⊢
      rw [hc] at hv ⊢
      dsimp only at hv ⊢
      cases d with
      | some dd => cases hv
      | none =>
        obtain ⟨⟨v', h2⟩, h3, h4⟩ := map_some hv
        dsimp only at h4
        subst h4
        dsimp only
        rw [pure_any (.inr hc) h3 h']; rfl
  · rw [hk] at hv ⊢
    exact hv
theorem simple_any {x : XOp} {fr : List V} {h : H} {d : Option Debt} {v : V} (hs : simplePure x = true) (hv : qval E x fr h d = some v) (h' : H) (d' : Option Debt) : qval E x fr h' d' = some v := by
  unfold simplePure at hs
  cases hk : x.kind with
  | norm =>
    rw [hk] at hs
    dsimp only at hs
    unfold qval at hv ⊢
    rw [hk] at hv ⊢
    dsimp only at hv ⊢
    split at hs
    · cases hs
    · rename_i hni
      have hc : cls x.o.op = .pure := by
        split at hs
        · assumption
        · cases hs
      have key : ∀ dd : Debt, xpure E x.o.op fr h dd = (xop E x.o.op fr h).map (·.1) := fun dd => by
        unfold xpure
        split
        · rename_i t a i hop; exact absurd hop (hni t a i)
        · rfl
      have key' : ∀ dd : Debt, xpure E x.o.op fr h' dd = (xop E x.o.op fr h').map (·.1) := fun dd => by
        unfold xpure
        split
        · rename_i t a i hop; exact absurd hop (hni t a i)
        · rfl
      have hv0 : (xop E x.o.op fr h).map (·.1) = some v := by
        unfold qvalN at hv
        rw [hc] at hv
        dsimp only at hv
        cases d with
        | none => exact hv
        | some dd => rw [← key dd]; exact hv
      obtain ⟨⟨v', h2⟩, h3, h4⟩ := map_some hv0
      dsimp only at h4
      subst h4
      have h5 := pure_any (.inl hc) h3 h'
      unfold qvalN
      rw [hc]
      dsimp only
      cases d' with
      | none => dsimp only; rw [h5]; rfl
      | some dd => dsimp only; rw [key' dd, h5]; rfl
  | src => rw [hk] at hs; cases hs
  | fill u => rw [hk] at hs; cases hs
  | pay => rw [hk] at hs; cases hs

/-- An operation that may pass what is walked ahead of it may come first. -/
theorem xd_front {k : Nat × XOp} {C : List (Nat × XOp)} {K : List V → H → Prop} : ∀ (A : List (Nat × XOp)) {fr : List V} {h : H} {pd : List Pend} {d : Option Debt}, (∀ y ∈ A, mayPass ops y.2 k.2 = true ∧ (B.getD k.1 0).testBit y.1 = false) →
    xd E ops B (A ++ k :: C) fr h pd d K → match xwant ops k.2.o fr with
      | some true => xstep E k.2 fr h d fun v h' d' => sideOk E k.2 (B.getD k.1 0) h' pd ∧ xd E ops B (A ++ C) (put fr k.2.o.dst v) h' pd d' K
      | some false => xd E ops B (A ++ C) (put fr k.2.o.dst (.tup [])) h pd d K
      | none => False
  | [], fr, h, pd, d, _, hx => by
    obtain ⟨i, x⟩ := k
    simp only [List.nil_append] at hx ⊢
    unfold xd at hx
    cases hw : xwant ops x.o fr with
    | none => rw [hw] at hx; exact hx
    | some b =>
      rw [hw] at hx
      cases b with
      | false => exact hx
      | true =>
        refine xstep_mono hx ?_
        rintro v h' d' _ ⟨h1, h2⟩
        exact ⟨h1, xd_pend C (fun p hp => List.mem_append_right _ hp) h2⟩
  | (i, y) :: A, fr, h, pd, d, hA, hx => by
    obtain ⟨hmp, hbit⟩ := hA (i, y) (by simp)
    dsimp only at hmp hbit
    unfold mayPass at hmp
    simp only [Bool.and_eq_true] at hmp
    obtain ⟨hap, hmp⟩ := hmp
    obtain ⟨a1, a2, a3⟩ := apartX_spec hap
    have a1l : ∀ dd, y.o.dst = some dd → dd ∉ k.2.o.looksAt ops := fun dd hd hm => a1 dd hd (List.mem_append_left _ hm)
    have a3l : ∀ dd, k.2.o.dst = some dd → dd ∉ y.o.looksAt ops := fun dd hd hm => a3 dd hd (List.mem_append_left _ hm)
    have hA' : ∀ z ∈ A, mayPass ops z.2 k.2 = true ∧ (B.getD k.1 0).testBit z.1 = false := fun z hz => hA z (by simp [hz])
    simp only [List.cons_append] at hx ⊢
    unfold xd at hx
    cases hwy : xwant ops y.o fr with
    | none => rw [hwy] at hx; exact hx.elim
    | some b =>
      rw [hwy] at hx
      cases b with
      | false =>
        dsimp only at hx
        have ih := xd_front A hA' hx
        rw [xwant_put a1l] at ih
        have back : ∀ {v : V} {h' : H} {d' : Option Debt}, xd E ops B (A ++ C) (put (put fr y.o.dst (.tup [])) k.2.o.dst v) h' pd d' K → xd E ops B ((i, y) :: (A ++ C)) (put fr k.2.o.dst v) h' pd d' K := by
          intro v h' d' hh
          unfold xd
          rw [xwant_put a3l, hwy]
          dsimp only
          rw [put_comm (fun dd hd => fun e => a2 dd e hd)]
          exact hh
        cases hwk : xwant ops k.2.o fr with
        | none => rw [hwk] at ih; exact ih
        | some b =>
          rw [hwk] at ih
          cases b with
          | false => exact back ih
          | true =>
            refine xstep_mono (xstep_congr (same_put a1) ih) ?_
            rintro v h' d' _ ⟨h1, h2⟩
            exact ⟨h1, back h2⟩
      | true =>
        dsimp only at hx
        rcases Bool.or_eq_true_iff.1 hmp with hq | hp
        · -- y is quiet
          simp only [Bool.and_eq_true] at hq
          obtain ⟨hq, hfp⟩ := hq
          have hqc := quiet_cls hq
          unfold xstep at hx
          rw [hqc] at hx
          dsimp only at hx
          cases hqv : qval E y fr h d with
          | none => rw [hqv] at hx; exact hx.elim
          | some v0 =>
            rw [hqv] at hx
            dsimp only at hx
            have ih := xd_front A hA' hx.2
            rw [xwant_put a1l] at ih
            have back : ∀ {v : V} {h' : H} {d' : Option Debt}, qval E y fr h' d' = some v0 → xd E ops B (A ++ C) (put (put fr y.o.dst v0) k.2.o.dst v) h' (pendOf y i fr v0 ++ pd) d' K → xd E ops B ((i, y) :: (A ++ C)) (put fr k.2.o.dst v) h' pd d' K := by
              intro v h' d' hqv' hh
              unfold xd
              rw [xwant_put a3l, hwy]
              dsimp only
              unfold xstep
              rw [hqc]
              dsimp only
              rw [qval_congr (same_put a3), hqv']
              dsimp only
              refine ⟨by unfold sideOk; rw [hqc]; trivial, ?_⟩
              rw [pendOf_congr (same_put a3), put_comm (fun dd hd => fun e => a2 dd e hd)]
              exact hh
            cases hwk : xwant ops k.2.o fr with
            | none => rw [hwk] at ih; exact ih
            | some b =>
              rw [hwk] at ih
              cases b with
              | false => exact back hqv ih
              | true =>
                refine xstep_mono (xstep_congr (same_put a1) ih) ?_
                rintro v h' d' hinfo ⟨h1, h2⟩
                refine ⟨sideOk_sub (fun p hp => List.mem_append_right _ hp) h1, back ?_ h2⟩
                unfold stepInfo at hinfo
                cases hkc : kcls k.2 with
                | quiet =>
                  rw [hkc] at hinfo
                  obtain ⟨rfl, rfl⟩ := hinfo
                  exact hqv
                | eff =>
                  rw [hkc] at hinfo
                  dsimp only at hinfo
                  subst hinfo
                  refine qval_heap hq hqv h' fun p hp => ?_
                  unfold sideOk at h1
                  rw [hkc] at h1
                  have h3 := pendOk_iff.1 h1
                  unfold pendOf at hp h3
                  cases hky : y.kind with
                  | norm =>
                    rw [hky] at hp h3
                    dsimp only at hp h3
                    split at hp
                    · rename_i t a hop
                      rw [hop] at h3
                      dsimp only at h3
                      obtain rfl := List.mem_singleton.1 hp
                      exact h3 ⟨i, t, ev fr a, v0⟩ (by simp) hbit
                    · cases hp
                  | src => rw [hky] at hp; cases hp
                  | fill u => rw [hky] at hp; cases hp
                  | pay => rw [hky] at hp; cases hp
                | fill u =>
                  have : simplePure y = true := by
                    unfold fillPay at hfp
                    rw [hkc] at hfp
                    simpa using hfp
                  exact simple_any this hqv h' d'
                | pay =>
                  have : simplePure y = true := by
                    unfold fillPay at hfp
                    rw [hkc] at hfp
                    simpa using hfp
                  exact simple_any this hqv h' d'
        · -- y pays, k is a store
          simp only [Bool.and_eq_true] at hp
          obtain ⟨hp1, hp2⟩ := hp
          have hyc : kcls y = .pay := by
            cases hk : kcls y with
            | pay => rfl
            | quiet => rw [hk] at hp1; cases hp1
            | eff => rw [hk] at hp1; cases hp1
            | fill u => rw [hk] at hp1; cases hp1
          have hkc : kcls k.2 = .eff := by
            cases hk : kcls k.2 with
            | eff => rfl
            | quiet => rw [hk] at hp2; cases hp2
            | pay => rw [hk] at hp2; cases hp2
            | fill u => rw [hk] at hp2; cases hp2
          rw [hkc] at hp2
          dsimp only at hp2
          have hyk : y.kind = .pay := by
            unfold kcls at hyc
            split at hyc <;> first | (cases hyc; done) | skip
            · rename_i hh; exact hh
            · split at hyc <;> cases hyc
          have hpd : ∀ (fr : List V) (v : V), pendOf y i fr v = [] := fun fr v => by unfold pendOf; rw [hyk]
          unfold xstep at hx
          rw [hyc] at hx
          dsimp only at hx
          split at hx
          case h_2 => exact hx.elim
          rename_i id n vs t a v hop
          obtain ⟨g1, g2, g3, g4, g5, g6⟩ := hx
          rw [hpd, List.nil_append] at g6
          have ih := xd_front A hA' g6
          rw [xwant_put a1l] at ih
          have e1 : ∀ u, ev (put fr k.2.o.dst u) a = ev fr a := fun u => (same_put a3).1 a (by rw [hop]; simp [Op.operands])
          have e2 : ∀ u, ev (put fr k.2.o.dst u) v = ev fr v := fun u => (same_put a3).1 v (by rw [hop]; simp [Op.operands])
          have back : ∀ {u : V} {h' : H}, xd E ops B (A ++ C) (put (put fr y.o.dst (.tup [])) k.2.o.dst u) h' pd none K → xd E ops B ((i, y) :: (A ++ C)) (put fr k.2.o.dst u) h' pd (some (id, n, vs)) K := by
            intro u h' hh
            unfold xd
            rw [xwant_put a3l, hwy]
            dsimp only
            unfold xstep
            rw [hyc]
            dsimp only
            rw [hop]
            dsimp only
            rw [e1, e2]
            refine ⟨g1, g2, g3, g4, by unfold sideOk; rw [hyc]; trivial, ?_⟩
            rw [hpd, List.nil_append, put_comm (fun dd hd => fun e => a2 dd e hd)]
            exact hh
          cases hwk : xwant ops k.2.o fr with
          | none => rw [hwk] at ih; exact ih
          | some b =>
            rw [hwk] at ih
            cases b with
            | false => exact back ih
            | true =>
              dsimp only at ih ⊢
              have ih2 := xstep_congr (same_put a1) ih
              unfold xstep at ih2 ⊢
              rw [hkc] at ih2 ⊢
              dsimp only at ih2 ⊢
              cases hko : k.2.o.op with
              | store t2 a2' v2 =>
                rw [hko] at ih2
                simp only [xdo, xop] at ih2
                dsimp only
                cases hst : xstore E t2 (ev fr a2') (ev fr v2) h with
                | none => rw [hst] at ih2; exact ih2.elim
                | some h2 =>
                  rw [hst] at ih2
                  dsimp only [Option.map] at ih2 ⊢
                  exact ⟨ih2.1, back ih2.2⟩
              | _ => rw [hko] at hp2; cases hp2
end
end Go.Proofs.YtjofmihdeblbmaaGreatDoor.Xa

/- XA, joined: XaN. -/
import Derived.Test.YtjofmihdeblbmaaGreatDoorXaM12
/- XA, part N: operations that need no memory; what may be done while an element is owed. -/
namespace Go.Proofs.YtjofmihdeblbmaaGreatDoor.Xa
open Go Go.RowKit
set_option linter.unusedVariables false
set_option linter.unusedSimpArgs false

inductive Cls where
  | pure
  | rd
  | load (t : TypeId) (a : Operand)
  | eff
def cls : Op → Cls
  | .load t a => .load t a
  | .convert .. => .rd
  | .move _ | .assign _ | .pick .. | .build .. | .nilCheck _ | .binOp .. | .unOp .. | .fieldAddr .. | .field .. | .indexAddr .. | .index .. | .extract .. | .makeFunc (.func _) _ _ => .pure
  | .call { callee := .builtin .len, .. } => .pure
  | .call { callee := .builtin .min, .. } => .pure
  | .call { callee := .builtin .max, .. } => .pure
  | _ => .eff
section
variable {E : Env} {κ : Kp} {h : H} {w : World}

theorem map_any {α : Type} {o : Option α} {f : α → V} {h h' h2 : H} {v : V} (hx : o.map (fun a => (f a, h)) = some (v, h')) : o.map (fun a => (f a, h2)) = some (v, h2) := by
  obtain ⟨q, h7, h8⟩ := map_some hx
  simp only [Prod.mk.injEq] at h8
  rw [h7]
  simp [h8.1]
theorem some_any {α : Type} {v v' : α} {h h' h2 : H} (hx : some (v, h) = some (v', h')) : some (v, h2) = some (v', h2) := by
  simp only [Option.some.injEq, Prod.mk.injEq] at hx ⊢
  exact ⟨hx.1, trivial⟩
theorem builtin_any {b : Builtin} (hb : b = .len ∨ b = .min ∨ b = .max) {ts : List TypeId} {args : List V} {h h' : H} {v : V} (hx : xbuiltin E b ts args h = some (v, h')) (h2 : H) : xbuiltin E b ts args h2 = some (v, h2) := by
  unfold xbuiltin at hx
  split at hx
  · unfold xbuiltin
    dsimp only
    split at hx
    · split at hx
      · exact some_any hx
      · cases hx
    · cases hx
  · unfold xbuiltin
    dsimp only
    split at hx
    · split at hx
      · exact some_any hx
      · cases hx
    · cases hx
  · unfold xbuiltin
    dsimp only
    split at hx
    · split at hx
      · exact some_any hx
      · cases hx
    · cases hx
  · rcases hb with hb | hb | hb <;> cases hb
  · unfold xbuiltin
    exact some_any hx
  · unfold xbuiltin
    exact some_any hx
  · unfold xbuiltin
    exact some_any hx
  · cases hx
/-- What is no load and does not write does not look at the heap. -/
theorem pure_any {op : Op} {fr : List V} {h h' : H} {v : V} (hc : cls op = .pure ∨ cls op = .rd) (hx : xop E op fr h = some (v, h')) (h2 : H) : xop E op fr h2 = some (v, h2) := by
  unfold cls at hc
  split at hc <;> first | (simp at hc; done) | skip
  all_goals simp only [xop] at hx ⊢
  all_goals first
    | exact some_any hx
    | exact map_any (f := fun v => v) hx
    | exact builtin_any (.inl rfl) hx h2
    | exact builtin_any (.inr (.inl rfl)) hx h2
    | exact builtin_any (.inr (.inr rfl)) hx h2
    | skip
  · split at hx
    · exact some_any hx
    · cases hx
  · split at hx
    · exact map_any (f := V.lit) hx
    · cases hx
  · split at hx
    · exact map_any (f := fun v => v) hx
    · cases hx
  · split at hx
    · rename_i hf; rw [if_pos hf]; exact some_any hx
    · cases hx
theorem builtin_run {b : Builtin} (hb : b = .len ∨ b = .min ∨ b = .max) {ts : Array TypeId} {ty : TypeId} {consts : Array Bool} {args : List V} {cargs : Array Value} {v : V} {h h' : H} (ha : VRels κ args cargs.toList)
    (hx : xbuiltin E b ts.toList args h = some (v, h')) (w : World) : ∃ c, (builtin b ts ty consts cargs).run E.P w = .ok (.value c) w ∧ VRel κ v c := by
  unfold xbuiltin at hx
  split at hx
  · rename_i t s hts
    split at hx
    case h_2 => cases hx
    rename_i tyv hT
    split at hx
    case h_2 => cases hx
    rename_i hd
    simp only [Option.some.injEq, Prod.mk.injEq] at hx
    obtain ⟨rfl, rfl⟩ := hx
    obtain ⟨_, d, hu, _, hfit⟩ := E.ok t tyv hT
    rw [hd] at hfit
    obtain rfl : d = .string := hfit
    obtain ⟨c, ds, hc, hv, hn⟩ := ha.inv_cons
    have := hn.inv_nil; subst this
    cases hv
    have e1 : cargs = #[.string s] := by cases cargs; simp_all
    have e2 : ts = #[t] := by cases ts; simp_all
    subst e1; subst e2
    refine ⟨.int .i64 s.size, ?_, .lit _⟩
    simp [builtin, Builtin.len_, run_underlying hu, goInt]
  · rename_i t id sz xs hts
    split at hx
    case h_2 => cases hx
    rename_i tyv hT
    split at hx
    case h_2 => cases hx
    rename_i e hd
    simp only [Option.some.injEq, Prod.mk.injEq] at hx
    obtain ⟨rfl, rfl⟩ := hx
    obtain ⟨_, d, hu, _, hfit⟩ := E.ok t tyv hT
    rw [hd] at hfit
    obtain rfl : d = .slice e := hfit
    obtain ⟨c, ds, hc, hv, hn⟩ := ha.inv_cons
    have := hn.inv_nil; subst this
    obtain ⟨a, cp, rfl⟩ : ∃ a cp, c = .slice a xs.length cp := by
      cases hv with
      | nil => exact ⟨_, _, rfl⟩
      | slc => exact ⟨_, _, rfl⟩
    have e1 : cargs = #[.slice a xs.length cp] := by cases cargs; simp_all
    have e2 : ts = #[t] := by cases ts; simp_all
    subst e1; subst e2
    refine ⟨.int .i64 xs.length, ?_, .lit _⟩
    simp [builtin, Builtin.len_, run_underlying hu, goInt]
  · rename_i t id off n sz hts
    split at hx
    case h_2 => cases hx
    rename_i tyv hT
    split at hx
    case h_2 => cases hx
    rename_i e hd
    simp only [Option.some.injEq, Prod.mk.injEq] at hx
    obtain ⟨rfl, rfl⟩ := hx
    obtain ⟨_, d, hu, _, hfit⟩ := E.ok t tyv hT
    rw [hd] at hfit
    obtain rfl : d = .slice e := hfit
    obtain ⟨c, ds, hc, hv, hn⟩ := ha.inv_cons
    have := hn.inv_nil; subst this
    obtain ⟨a, cp, rfl⟩ : ∃ a cp, c = .slice a n cp := by
      cases hv with
      | msl => exact ⟨_, _, rfl⟩
    have e1 : cargs = #[.slice a n cp] := by cases cargs; simp_all
    have e2 : ts = #[t] := by cases ts; simp_all
    subst e1; subst e2
    refine ⟨.int .i64 n, ?_, .lit _⟩
    simp [builtin, Builtin.len_, run_underlying hu, goInt]
  · rcases hb with hb | hb | hb <;> cases hb
  · rename_i k a k' b'
    simp only [Option.some.injEq, Prod.mk.injEq] at hx
    obtain ⟨rfl, rfl⟩ := hx
    obtain ⟨c, ds, hc, hv, hn⟩ := ha.inv_cons
    obtain ⟨c2, ds2, hc2, hv2, hn2⟩ := hn.inv_cons
    have := hn2.inv_nil; subst this
    subst hc2
    cases hv; cases hv2
    have e1 : cargs = #[.int k a, .int k' b'] := by cases cargs; simp_all
    subst e1
    refine ⟨.int k (if b' < a then b' else a), ?_, .lit _⟩
    simp [builtin, Builtin.min_, Builtin.min2]
  · rename_i k a k' b'
    simp only [Option.some.injEq, Prod.mk.injEq] at hx
    obtain ⟨rfl, rfl⟩ := hx
    obtain ⟨c, ds, hc, hv, hn⟩ := ha.inv_cons
    obtain ⟨c2, ds2, hc2, hv2, hn2⟩ := hn.inv_cons
    have := hn2.inv_nil; subst this
    subst hc2
    cases hv; cases hv2
    have e1 : cargs = #[.int k a, .int k' b'] := by cases cargs; simp_all
    subst e1
    refine ⟨.int k (if b' > a then b' else a), ?_, .lit _⟩
    simp [builtin, Builtin.max_, Builtin.max2]
  · rename_i k a k1 b' k2 d'
    simp only [Option.some.injEq, Prod.mk.injEq] at hx
    obtain ⟨rfl, rfl⟩ := hx
    obtain ⟨c, ds, hc, hv, hn⟩ := ha.inv_cons
    obtain ⟨c2, ds2, hc2, hv2, hn2⟩ := hn.inv_cons
    obtain ⟨c3, ds3, hc3, hv3, hn3⟩ := hn2.inv_cons
    have := hn3.inv_nil; subst this
    subst hc3
    subst hc2
    cases hv; cases hv2; cases hv3
    have e1 : cargs = #[.int k a, .int k1 b', .int k2 d'] := by cases cargs; simp_all
    subst e1
    refine ⟨.int k (if d' > (if b' > a then b' else a) then d' else (if b' > a then b' else a)), ?_, .lit _⟩
    simp [builtin, Builtin.max_, Builtin.max2]
  · cases hx
/-- What is pure runs in any memory. -/
theorem pure_run {o : Oper} {fr : List V} {ρ : Operand → Value} (hev : ∀ x, VRel κ (ev fr x) (ρ x)) {v : V} {h h' : H} (hc : cls o.op = .pure) (hx : xop E o.op fr h = some (v, h')) (w : World) :
    ∃ c, (execOp ρ o).run E.P w = .ok (.value c) w ∧ VRel κ v c := by
  obtain ⟨dst, op, type, pos, after, guard⟩ := o
  dsimp only at hx hc
  have one : ∀ {s : Sem Value}, (∃ c, s.run E.P w = .ok c w ∧ VRel κ v c) → ∃ c, (do pure (Next.value (← s)) : Sem Next).run E.P w = .ok (.value c) w ∧ VRel κ v c := by
    rintro s ⟨c, h1, h2⟩
    exact ⟨c, by simp [h1], h2⟩
  unfold cls at hc
  split at hc <;> first | (cases hc; done) | skip
  · simp only [xop, Option.some.injEq, Prod.mk.injEq] at hx
    obtain ⟨rfl, rfl⟩ := hx
    exact ⟨_, rfl, hev _⟩
  · simp only [xop, Option.some.injEq, Prod.mk.injEq] at hx
    obtain ⟨rfl, rfl⟩ := hx
    exact ⟨_, rfl, hev _⟩
  · rename_i c a b
    simp only [xop] at hx
    split at hx
    case h_2 => cases hx
    rename_i t ht
    simp only [Option.some.injEq, Prod.mk.injEq] at hx
    obtain ⟨rfl, rfl⟩ := hx
    have hcc := hev c
    rw [ht] at hcc
    generalize hq : ρ c = q at hcc
    cases hcc
    refine ⟨if t then ρ a else ρ b, by simp [execOp, hq, asBool], ?_⟩
    cases t
    · exact hev b
    · exact hev a
  · rename_i t ps
    simp only [xop] at hx
    obtain ⟨u, h1, h2⟩ := map_some hx
    simp only [Prod.mk.injEq] at h2
    obtain ⟨rfl, rfl⟩ := h2
    exact one (xbuild_ok hev h1)
  · rename_i x
    simp only [xop] at hx
    obtain ⟨u, h1, h2⟩ := map_some hx
    simp only [Prod.mk.injEq] at h2
    obtain ⟨rfl, rfl⟩ := h2
    have hcc := hev x
    refine ⟨ρ x, ?_, ?_⟩
    · generalize hq : ev fr x = q at hcc h1
      generalize hq2 : ρ x = q2 at hcc
      cases hcc <;> simp [xnil] at h1 <;> simp [execOp, hq2]
    · unfold xnil at h1
      split at h1 <;> first | (cases h1; done) | (obtain rfl := Option.some.inj h1; rename_i he; rw [← he]; exact hcc)
  · rename_i op t x y yt
    simp only [xop] at hx
    obtain ⟨u, h1, h2⟩ := map_some hx
    simp only [Prod.mk.injEq] at h2
    obtain ⟨rfl, rfl⟩ := h2
    exact one (xbinop_ok (hev x) (hev y) h1)
  · rename_i op t x
    simp only [xop] at hx
    split at hx
    case h_2 => cases hx
    rename_i a ha
    obtain ⟨u, h1, h2⟩ := map_some hx
    simp only [Prod.mk.injEq] at h2
    obtain ⟨rfl, rfl⟩ := h2
    have hcc := hev x
    rw [ha] at hcc
    generalize hq : ρ x = q at hcc
    cases hcc
    exact ⟨u, by simp [execOp, hq, xun_ok h1], .lit u⟩
  · rename_i s x f
    simp only [xop] at hx
    obtain ⟨u, h1, h2⟩ := map_some hx
    simp only [Prod.mk.injEq] at h2
    obtain ⟨rfl, rfl⟩ := h2
    exact one (xfieldAddr_ok (hev x) h1)
  · rename_i s x f
    simp only [xop] at hx
    obtain ⟨u, h1, h2⟩ := map_some hx
    simp only [Prod.mk.injEq] at h2
    obtain ⟨rfl, rfl⟩ := h2
    exact one (xfield_ok (hev x) h1)
  · rename_i t x i
    simp only [xop] at hx
    obtain ⟨u, h1, h2⟩ := map_some hx
    simp only [Prod.mk.injEq] at h2
    obtain ⟨rfl, rfl⟩ := h2
    exact one (xindexAddr_ok (hev x) (hev i) h1)
  · rename_i t x i
    simp only [xop] at hx
    obtain ⟨u, h1, h2⟩ := map_some hx
    simp only [Prod.mk.injEq] at h2
    obtain ⟨rfl, rfl⟩ := h2
    exact one (xindex_ok (hev x) (hev i) h1)
  · rename_i x i
    simp only [xop] at hx
    split at hx
    case h_2 => cases hx
    rename_i vs hvs
    obtain ⟨u, h1, h2⟩ := map_some hx
    simp only [Prod.mk.injEq] at h2
    obtain ⟨rfl, rfl⟩ := h2
    have hcc := hev x
    rw [hvs] at hcc
    generalize hq : ρ x = q at hcc
    cases hcc with
    | tup hv =>
      obtain ⟨c, h3, h4⟩ := hv.get h1
      exact ⟨c, by simp [execOp, hq, Instr.extract, h3], h4⟩
  · rename_i f first caps
    simp only [xop] at hx
    split at hx
    case isFalse => cases hx
    rename_i hf
    obtain ⟨hf, hone⟩ := hf
    subst hf
    simp only [Option.some.injEq, Prod.mk.injEq] at hx
    obtain ⟨rfl, rfl⟩ := hx
    refine ⟨.func (.func f) #[] (caps.map ρ), by simp [execOp, Instr.makeFunc], ?_⟩
    have := VRel.fn f (VRels.of_map hev caps.toList) (fun c hc => List.all_eq_true.1 hone c hc)
    rw [← Array.toList_map (f := ρ)] at this
    exact this
  all_goals
    rename_i args ts
    simp only [xop] at hx
    have ha := VRels.of_map hev args.toList
    have hrun := builtin_run (by simp) (ty := type) (consts := args.map fun | .const _ => true | _ => false) (cargs := args.map ρ) (by simpa using ha) hx w
    obtain ⟨c, h1, h2⟩ := hrun
    refine ⟨c, ?_, h2⟩
    rw [← h1]
    rfl

/-- A row of one element that is only appended: no number is given to it. -/
def xsrc (E : Env) (op : Op) (fr : List V) : Option V :=
  match op with
  | .buildSlice t n ps => match E.T t with
    | some ty => match ty.desc with
      | .slc e => match E.T e with
        | some ety => if n = 1 ∧ 0 < ety.size ∧ ety.size ≤ 16777216 then match xrows ety.size (List.replicate n ety.zero) (ps.toList.map fun p => (p.1, ev fr p.2)) with
            | some _ => some (.src ety.size)
            | none => none
          else none
        | none => none
      | _ => none
    | none => none
  | _ => none
theorem xsrc_ok (R : Rel E.P κ h w) {o : Oper} {fr : List V} {ρ : Operand → Value} (hev : ∀ x, VRel κ (ev fr x) (ρ x)) {v : V} (hx : xsrc E o.op fr = some v) :
    ∃ c w' κ', (execOp ρ o).run E.P w = .ok (.value c) w' ∧ κ.le κ' ∧ VRel κ' v c ∧ Rel E.P κ' h w' := by
  obtain ⟨dst, op, type, pos, after, guard⟩ := o
  dsimp only at hx
  unfold xsrc at hx
  split at hx
  case h_2 => cases hx
  rename_i t n ps
  split at hx
  case h_2 => cases hx
  rename_i ty hT
  split at hx
  case h_2 => cases hx
  rename_i e hd
  split at hx
  case h_2 => cases hx
  rename_i ety hTe
  split at hx
  case isFalse => cases hx
  rename_i hc
  obtain ⟨rfl, hc1, hc2⟩ := hc
  split at hx
  case h_2 => cases hx
  rename_i rows hrows
  obtain rfl := Option.some.inj hx
  obtain ⟨co, css, hrun, h7, h8, h2, h3, h6, hcl⟩ := buildSlice_run hev hT hd hTe ⟨hc1, by omega⟩ hrows
  have hnone : κ.rt w.heap.size = none := by
    cases hr : κ.rt w.heap.size with
    | none => rfl
    | some l => exact absurd (R.rt_lt hr) (Nat.lt_irrefl _)
  let κ' : Kp := { κ with rt := fun b => if b = w.heap.size then some co.toList else κ.rt b }
  have hle : κ.le κ' := ⟨rfl, Nat.le_refl _, fun _ _ h => h, fun _ _ => rfl, fun b l hb => by
    refine ⟨l, ?_, List.prefix_refl l⟩
    show (if b = w.heap.size then _ else _) = _
    rw [if_neg (fun e => by rw [e, hnone] at hb; cases hb)]; exact hb, fun _ _ h => h, fun _ _ h => h⟩
  have hrtn : ∀ b, b ≠ w.heap.size → κ'.rt b = κ.rt b := fun b hb => by show (if b = w.heap.size then _ else _) = _; rw [if_neg hb]
  refine ⟨.slice (some ⟨w.heap.size, 0, none⟩) 1 1, w.alloc (.cells co e (0, 0)), κ', ?_, hle, ?_, ?_⟩
  · simp [execOp, hrun w]
  · have := h8.flat.ones h6
    exact .src (l := co.toList) ⟨co.toList, by show (if w.heap.size = w.heap.size then _ else _) = _; rw [if_pos rfl], by simp⟩ (by simpa using hcl) (fun c hc => by rw [← one_eq]; rw [← h7] at hc; exact this c hc)
  · refine ⟨R.next, R.pos, R.below.alloc R.blt _, fun i o ho => ?_, fun i b hx => ?_, R.inj, fun b l hl => ?_, R.row, fun i n hx => ?_, R.extinj, R.free, R.hole, fun id a ha => (let ⟨k, h1, h2⟩ := R.arr id a ha; ⟨k, h1, h2.keep hle (alloc_old w _ (R.arrb id k h1).2.1)⟩),
      fun id k hx => ⟨(R.arrb id k hx).1, by have := (R.arrb id k hx).2.1; rw [alloc_size]; omega, (R.arrb id k hx).2.2⟩, R.arrinj, fun id a k ha hk => ⟨(hrtn k.b (by have := (R.arrb id k hk).2.1; omega)).trans (R.arro id a k ha hk).1, (R.arro id a k ha hk).2⟩⟩
    · obtain ⟨b, h1, h4⟩ := R.obj i o ho
      exact ⟨b, h1, (h4.world (alloc_old w _ (R.objb i b h1).2.1)).mono hle⟩
    · obtain ⟨h1, h4, h5, h9⟩ := R.objb i b hx
      exact ⟨h1, by rw [alloc_size]; omega, (hrtn b (by omega)).trans h5, h9⟩
    · by_cases hb : b = w.heap.size
      · subst hb
        have : κ'.rt w.heap.size = some co.toList := by show (if w.heap.size = w.heap.size then _ else _) = _; rw [if_pos rfl]
        rw [this] at hl
        obtain rfl := Option.some.inj hl
        exact ⟨co, e, (0, 0), alloc_new w _, List.prefix_refl _⟩
      · rw [hrtn b hb] at hl
        obtain ⟨c, e', fz, h1, h4⟩ := R.rt b l hl
        exact ⟨c, e', fz, (alloc_old w _ (R.rt_lt hl)).trans h1, h4⟩
    · obtain ⟨r, l, c, g1, g2, g3, g4, g4b, g5, g6⟩ := R.ext i n hx
      have hlt := R.rt_lt g3
      exact ⟨r, l, c, g1, g2, (hrtn _ (by omega)).trans g3, g4, g4b, (alloc_old w _ hlt).trans g5, g6⟩

/-- The append whose element is stored behind it. -/
def xfillApp (E : Env) (op : Op) (v : Operand) (fr : List V) (h : H) : Option (V × H × Debt) :=
  match op with
  | .call { callee := .builtin .append, args, argTypes } => match argTypes.toList, args.toList with
    | [t, t'], [s, x] => if t = t' then match ev fr x with
        | .src sz => xappF E t (ev fr s) sz (ev fr v) h
        | _ => none
      else none
    | _, _ => none
  | _ => none
theorem xfillApp_ok (R : Rel E.P κ h w) {o : Oper} {v : Operand} {fr : List V} {ρ : Operand → Value} (hev : ∀ x, VRel κ (ev fr x) (ρ x)) {r : V} {h' : H} {d : Debt} (hx : xfillApp E o.op v fr h = some (r, h', d)) :
    ∃ c w' κ', (execOp ρ o).run E.P w = .ok (.value c) w' ∧ κ.le κ' ∧ VRel κ' r c ∧ RelD E.P κ' h' w' (some d) := by
  obtain ⟨dst, op, type, pos, after, guard⟩ := o
  dsimp only at hx
  unfold xfillApp at hx
  split at hx
  case h_2 => cases hx
  rename_i args ts
  split at hx
  case h_2 => cases hx
  rename_i t t' s x hts hargs
  split at hx
  case isFalse => cases hx
  rename_i ht
  subst ht
  split at hx
  case h_2 => cases hx
  rename_i sz hsz
  have hxs := hev x
  rw [hsz] at hxs
  obtain ⟨cr, w', κ', h1, h2, h3, h4⟩ := xappF_ok (ty := type) R (hev s) hxs (hev v) hx
  have e1 : args = #[s, x] := by cases args; simp_all
  have e2 : ts = #[t, t] := by cases ts; simp_all
  subst e1; subst e2
  refine ⟨cr, w', κ', ?_, h2, h3, h4⟩
  have h5 : (builtin .append #[t, t] type (#[s, x].map fun | .const _ => true | _ => false) (#[s, x].map ρ)).run E.P w = .ok (.value cr) w' := by
    simp [builtin, h1]
  rw [← h5]
  rfl

/-- An operation that is pure, while an element is owed. -/
def xpure (E : Env) (op : Op) (fr : List V) (h : H) (d : Debt) : Option V :=
  match op with
  | .indexAddr t a i => match ev fr a, ev fr i, E.T t with
    | .slc id sz xs, .lit (.int k m), some ty => if id = d.1 then match ty.desc with
        | .slc e => if m = (d.2.1 : Int) ∧ d.2.1 < xs.length ∧ sz = d.2.2.length ∧ (E.T e).map (·.size) = some sz then some (.hole id) else none
        | _ => none
      else xindexAddr E t (ev fr a) (ev fr i)
    | _, _, _ => none
  | op => (xop E op fr h).map (·.1)
theorem RelD.le_virtual {d : Option Debt} (R : RelD E.P κ h w d) : ∃ w', Rel E.P κ h w' ∧ w'.heap.size = w.heap.size := by
  cases d with
  | none => exact ⟨w, R, rfl⟩
  | some d =>
    obtain ⟨id, n, vs⟩ := d
    obtain ⟨r, cur, ccs, h1, h2, h3, h4, h5, h6, h7, h8, h9, h10, h11⟩ := R
    exact ⟨_, h11, setRow_size _ _ _⟩
theorem xpure_ok {d : Debt} (R : RelD E.P κ h w (some d)) {o : Oper} {fr : List V} {ρ : Operand → Value} (hev : ∀ x, VRel κ (ev fr x) (ρ x)) {v : V} (hc : cls o.op = .pure) (hx : xpure E o.op fr h d = some v) :
    ∃ c, (execOp ρ o).run E.P w = .ok (.value c) w ∧ VRel κ v c := by
  unfold xpure at hx
  split at hx
  · rename_i t a i hop
    split at hx
    case h_2 => cases hx
    rename_i id sz xs k m ty ha hi hT
    split at hx
    · rename_i hid
      split at hx
      case h_2 => cases hx
      rename_i e hd
      split at hx
      case isFalse => cases hx
      rename_i hcond
      obtain ⟨hm, hlt, hszd, hsz⟩ := hcond
      obtain rfl := Option.some.inj hx
      obtain ⟨did, n, vs⟩ := d
      dsimp only at hid hm hlt hszd
      subst hid
      obtain ⟨r, cur, ccs, h1, h2, h3, h4, h5, h6, h7, h8, h9, h10, h11⟩ := R
      obtain ⟨_, dd, hu, _, hfit⟩ := E.ok t ty hT
      rw [hd] at hfit
      obtain rfl : dd = .slice e := hfit
      obtain ⟨ety, hTe, hez⟩ : ∃ ety, E.T e = some ety ∧ ety.size = sz := by
        cases hq : E.T e with
        | none => rw [hq] at hsz; cases hsz
        | some ety => rw [hq] at hsz; exact ⟨ety, rfl, Option.some.inj hsz⟩
      obtain ⟨⟨ie, z, hie, hsi, _⟩, _⟩ := E.ok e ety hTe
      have hva := hev a
      have hvi := hev i
      rw [ha] at hva
      rw [hi] at hvi
      generalize hqa : ρ a = qa at hva
      generalize hqi : ρ i = qi at hvi
      cases hvi
      cases hva with
      | nil => simp at hlt
      | slc hv hsz1 hone hcap hr hid' hrow =>
        rename_i b o' c css
        obtain ⟨r', g1, g2, g3, g4, g5⟩ := hrow
        rw [h2] at g1
        obtain rfl := Option.some.inj g1
        subst g2
        rw [h3] at g3
        subst g3
        refine ⟨.pointer (some ⟨r.b, n * vs.length, none⟩), ?_, .hole h1⟩
        have hs : (sizeOf e).run E.P w = .ok ie.size w := by simp [sizeOf, typeInfo, hie]
        have h0 : (0 : Int) ≤ (n : Int) := by omega
        have h0' : (n : Int) < (xs.length : Int) := by omega
        obtain ⟨dst, op, type, pos, after, guard⟩ := o
        dsimp only at hop
        subst hop
        subst hm
        show (do pure (Next.value (← Instr.indexAt t (ρ a) (ρ i))) : Sem Next).run E.P w = _
        rw [hqa, hqi]
        simp [Instr.indexAt, asIntOf, run_underlying hu, hlt, hs, hsi, hez, hszd, Addr.add_mid]
    · have hx' : xop E o.op fr h = some (v, h) := by rw [hop]; simp only [xop, hx]; rfl
      exact pure_run hev hc hx' w
  · obtain ⟨⟨v', h'⟩, h1, h2⟩ := map_some hx
    dsimp only at h2
    subst h2
    exact pure_run hev hc h1 w

/-- A store into an object, while an element is owed. -/
theorem xstore_owed {d : Debt} (R : RelD E.P κ h w (some d)) {t : TypeId} {a v : V} {ca c : Value} {h' : H} (ha : VRel κ a ca) (hv : VRel κ v c) (hx : xstore E t a v h = some h') :
    ∃ w', (Instr.storeAt t ca c).run E.P w = .ok () w' ∧ RelD E.P κ h' w' (some d) := by
  obtain ⟨id, n, vs⟩ := d
  obtain ⟨r, cur, ccs, h1, h2, h3, h4, h5, h6, h7, h8, ⟨l, h9⟩, h10, h11⟩ := R
  generalize hX : (cur.toList.take (n * vs.length) ++ ccs ++ cur.toList.drop (n * vs.length + vs.length)).toArray = X at h11
  have hx0 := hx
  unfold xstore at hx
  split at hx
  case h_3 => cases hx
  case h_2 =>
    rename_i ty aid ai aoff hT
    obtain ⟨w1, hr1, hR1⟩ := xstore_ok h11 ha hv hx0
    cases ha with
    | eptr hk =>
      rename_i k
      split at hx
      case h_2 => cases hx
      rename_i a ho
      split at hx
      case h_2 => cases hx
      rename_i rr hrr
      split at hx
      case isFalse => cases hx
      rename_i hcond
      obtain ⟨hs, hl, hle⟩ := hcond
      obtain ⟨⟨i, z, hi, hsz, _⟩, _⟩ := E.ok t ty hT
      obtain ⟨k', hk', hA⟩ := h11.arr aid a ho
      rw [hk] at hk'
      obtain rfl := Option.some.inj hk'
      obtain ⟨cco, css, g1, _, _, g4⟩ := hA.held
      have hbr : k.b ≠ r.b := fun e => by
        have := (h11.arro aid a k ho hk).1
        rw [e, h9] at this; cases this
      have g1w : w.heap[k.b]? = some (.cells cco a.e (0, 0)) := by rw [← g1, setRow_other _ _ _ _ hbr]
      obtain ⟨hvc, hv1⟩ := storable_cells hv hs
      have hlen : c.cells.toList.length = ty.size := by rw [← hvc.length]; exact hl
      have hroom : k.o + ai * k.sz + aoff + ty.size ≤ cco.size := by
        have q1 : ai < a.rows.length := (List.getElem?_eq_some_iff.1 hrr).1
        have q2 := hA.fits
        have q3 : (ai + 1) * k.sz ≤ k.cap * k.sz := Nat.mul_le_mul_right _ (by omega)
        have q4 := hA.len rr (List.mem_of_getElem? hrr)
        have q5 := hA.sz
        rw [Nat.succ_mul] at q3
        omega
      have hst : ∀ w2 : World, w2.heap[k.b]? = some (.cells cco a.e (0, 0)) → (Instr.storeAt t (.pointer (some ⟨k.b, k.o + ai * k.sz + aoff, none⟩)) c).run E.P w2 = .ok () (w2.setRow k.b (cco.toList.take (k.o + ai * k.sz + aoff) ++ c.cells.toList ++ cco.toList.drop (k.o + ai * k.sz + aoff + c.cells.toList.length)).toArray) := fun w2 hw2 => by
        have := run_storeCells_at E.P k.b (k.o + ai * k.sz + aoff) a.e c.cells.toList 0 cco w2 hw2 (by rw [hlen]; omega) (fun u hu => by rw [← one_eq]; exact hvc.ones hv1 u hu)
        simp only [Nat.add_zero] at this
        simp only [Instr.storeAt, Instr.sureAddr, storeVar, Sem.run_bind, Sem.run_pure, Result.andThen_ok, sizeOf, typeInfo]
        have h0 : c.cells.size = i.size := by rw [hsz, ← hlen]; simp
        simp [hi, h0, this]
      generalize hY : (cco.toList.take (k.o + ai * k.sz + aoff) ++ c.cells.toList ++ cco.toList.drop (k.o + ai * k.sz + aoff + c.cells.toList.length)).toArray = Y at hst
      have e1 := hst _ g1
      rw [hr1] at e1
      simp only [Result.ok.injEq, true_and] at e1
      subst e1
      refine ⟨w.setRow k.b Y, hst w g1w, ?_⟩
      refine ⟨r, cur, ccs, h1, h2, h3, h4, by rw [setRow_other _ _ _ _ (Ne.symm hbr)]; exact h5, h6, h7, h8, ⟨l, h9⟩, h10, ?_⟩
      rw [hX]
      have hh5 : (w.setRow k.b Y).heap[r.b]? = some (.cells cur r.e (0, 0)) := by rw [setRow_other _ _ _ _ (Ne.symm hbr)]; exact h5
      refine hR1.set_row (e := r.e) (by rw [setRow_other _ _ _ _ (Ne.symm hbr)]; exact setRow_at h5 X) hh5 (fun j hkb => ?_) (by rw [setRow_size, setRow_size, setRow_size]) rfl rfl rfl
      by_cases hjb : j = k.b
      · subst hjb
        rw [setRow_at g1w, setRow_at g1]
      · rw [setRow_other _ _ _ _ hjb, setRow_other _ _ _ _ hjb, setRow_other _ _ _ _ hkb]
  rename_i ty oid off hT
  cases ha with
  | ptr off hb =>
    rename_i b
    split at hx
    case h_2 => cases hx
    rename_i cs e ho
    split at hx
    case isFalse => cases hx
    rename_i hcond
    obtain ⟨hs, hl, hle⟩ := hcond
    obtain rfl := Option.some.inj hx
    obtain ⟨⟨i, z, hi, hsz, _⟩, _⟩ := E.ok t ty hT
    obtain ⟨b', hb', cco, g1, g2, g3⟩ := h11.obj oid _ ho
    rw [hb] at hb'
    obtain rfl := Option.some.inj hb'
    have hbr : b ≠ r.b := fun e => by
      have := (h11.objb oid b hb).2.2.1
      rw [e, h9] at this; cases this
    have g1w : w.heap[b]? = some (.cells cco e (0, 0)) := by rw [← g1, setRow_other _ _ _ _ hbr]
    obtain ⟨hvc, hv1⟩ := storable_cells hv hs
    have hlen : c.cells.toList.length = ty.size := by rw [← hvc.length]; exact hl
    have hcco : cs.length = cco.size := by rw [g2.length]; simp
    have hst := run_storeCells_at E.P b off e c.cells.toList 0 cco w g1w (by rw [hlen]; omega) (fun u hu => by rw [← one_eq]; exact hvc.ones hv1 u hu)
    simp only [Nat.add_zero] at hst
    generalize hY : (cco.toList.take off ++ c.cells.toList ++ cco.toList.drop (off + c.cells.toList.length)).toArray = Y at hst
    refine ⟨w.setRow b Y, ?_, ?_⟩
    · simp only [Instr.storeAt, Instr.sureAddr, storeVar, Sem.run_bind, Sem.run_pure, Result.andThen_ok, sizeOf, typeInfo]
      have : c.cells.size = i.size := by rw [hsz, ← hlen]; simp
      simp [hi, this, hst]
    · have hput : Rel E.P κ (h.put oid (.cells (splice cs off v.cells) e)) ((w.setRow r.b X).setRow b Y) := by
        refine h11.putObj ho hb ?_ (fun k hk => setRow_other _ b k _ hk) (setRow_size _ _ _) (setRow_below _ _ _ (h11.objb oid b hb).1)
        refine ⟨Y, setRow_at g1 Y, ?_, ?_⟩
        · have := ((g2.take off).append hvc).append (g2.drop (off + v.cells.length))
          rw [hl] at this
          unfold splice
          rw [← hY, hl]
          simpa [hlen] using this
        · exact splice_ones g3 hv1
      refine ⟨r, cur, ccs, h1, h2, h3, h4, by rw [setRow_other _ _ _ _ (Ne.symm hbr)]; exact h5, h6, h7, h8, ⟨l, h9⟩, h10, ?_⟩
      rw [hX]
      have hh5 : (w.setRow b Y).heap[r.b]? = some (.cells cur r.e (0, 0)) := by rw [setRow_other _ _ _ _ (Ne.symm hbr)]; exact h5
      refine hput.set_row (e := r.e) (by rw [setRow_other _ _ _ _ (Ne.symm hbr)]; exact setRow_at h5 X) hh5 (fun k hk => ?_) (by rw [setRow_size, setRow_size, setRow_size]) rfl rfl rfl
      by_cases hkb : k = b
      · subst hkb
        rw [setRow_at g1w, setRow_at g1]
      · rw [setRow_other _ _ _ _ hkb, setRow_other _ _ _ _ hkb, setRow_other _ _ _ _ hk]

/-- The element is stored: nothing is owed any more. -/
theorem pay_ok {id n : Nat} {vs : List V} (R : RelD E.P κ h w (some (id, n, vs))) {t : TypeId} {v : V} {ca c : Value} (ha : VRel κ (.hole id) ca) (hv : VRel κ v c) (hvs : v.cells = vs) (hst : v.storable = true) (hsz : (E.T t).map (·.size) = some vs.length) :
    ∃ w', (Instr.storeAt t ca c).run E.P w = .ok () w' ∧ Rel E.P κ h w' := by
  obtain ⟨r, cur, ccs, h1, h2, h3, h4, h5, h6, h7, h8, h9, h10, h11⟩ := R
  obtain ⟨ty, hT, hty⟩ : ∃ ty, E.T t = some ty ∧ ty.size = vs.length := by
    cases hq : E.T t with
    | none => rw [hq] at hsz; cases hsz
    | some ty => rw [hq] at hsz; exact ⟨ty, rfl, Option.some.inj hsz⟩
  obtain ⟨⟨i, z, hi, hsi, _⟩, _⟩ := E.ok t ty hT
  obtain ⟨hvc, hv1⟩ := storable_cells hv hst
  rw [hvs] at hvc
  have hcc : c.cells.toList = ccs := VRels.uniq h8 hvc h7
  have hlen : ccs.length = vs.length := h7.length.symm
  cases ha with
  | hole hh =>
    rw [h1] at hh
    simp only [Option.some.injEq, Prod.mk.injEq] at hh
    obtain ⟨rfl, rfl⟩ := hh
    have hst2 := run_storeCells_at E.P r.b (n * vs.length) r.e c.cells.toList 0 cur w h5 (by rw [hcc, hlen]; omega) (fun u hu => by rw [← one_eq]; exact hvc.ones h8 u hu)
    simp only [Nat.add_zero] at hst2
    rw [hcc, hlen] at hst2
    refine ⟨_, ?_, h11⟩
    have hsize : c.cells.size = i.size := by
      rw [hsi, hty, ← hlen, ← hcc]; simp
    simp only [Instr.storeAt, Instr.sureAddr, storeVar, Sem.run_bind, Sem.run_pure, Result.andThen_ok, sizeOf, typeInfo]
    rw [hcc]
    simp [hi, hsize, hst2]
end
end Go.Proofs.YtjofmihdeblbmaaGreatDoor.Xa

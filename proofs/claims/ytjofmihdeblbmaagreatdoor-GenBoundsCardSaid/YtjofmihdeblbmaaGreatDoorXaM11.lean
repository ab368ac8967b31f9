/- XA, joined: XaI. -/
import Derived.Test.YtjofmihdeblbmaaGreatDoorXaM10
import Derived.Laws.BytesString
/- XA, part I: all operations but calls, in one. -/
namespace Go.Proofs.YtjofmihdeblbmaaGreatDoor.Xa
open Go Go.RowKit
set_option linter.unusedVariables false
set_option linter.unusedSimpArgs false
section
variable {E : Env} {κ : Kp} {h : H} {w : World}

def xbytes : List (List V) → Option (List UInt8)
  | [] => some []
  | [.lit (.int .u8 n)] :: r => (xbytes r).map (UInt8.ofNat n.toNat :: ·)
  | _ => none
def xconv (E : Env) (s d : TypeId) (x : V) : Option V :=
  match E.T s, E.T d, x with
  | some _, some ty, .lit (.int _ n) => match ty.desc with
    | .int k => some (.lit (.int k (k.wrap n)))
    | _ => none
  | some _, some ty, .lit (.string b) => match ty.desc with
    | .str => some (.lit (.string b))
    | _ => none
  | some sty, some ty, .slc id sz xs => match sty.desc, ty.desc with
    | .slc e, .str => if (E.T e).map (·.desc matches .int .u8) = some true ∧ id ≠ 0 ∧ sz = 1 then (xbytes xs).map fun l => .lit (.string ⟨l.toArray⟩) else none
    | _, _ => none
  | _, _, _ => none
theorem xbytes_ok : ∀ {xs : List (List V)} {css : List (List Value)} {l : List UInt8}, VRowss κ xs css → xbytes xs = some l → ∃ ns : List Int, css.flatten = ns.map (Value.int .u8) ∧ l = ns.map (fun n => UInt8.ofNat n.toNat) ∧ xs.length = ns.length
  | [], _, l, .nil, hx => by
    simp only [xbytes, Option.some.injEq] at hx
    subst hx
    exact ⟨[], rfl, rfl, rfl⟩
  | x :: xs, _, l, .cons hx ht, hb => by
    unfold xbytes at hb
    split at hb
    · rename_i he; cases he
    · rename_i n r he
      simp only [List.cons.injEq] at he
      obtain ⟨rfl, rfl⟩ := he
      cases hr : xbytes xs with
      | none => rw [hr] at hb; cases hb
      | some l' =>
        rw [hr] at hb
        obtain rfl := Option.some.inj hb
        obtain ⟨ns, h1, h2, h3⟩ := xbytes_ok ht hr
        obtain ⟨c, ds, hc, hv, hn⟩ := hx.inv_cons
        have := hn.inv_nil; subst this
        cases hv
        subst hc
        exact ⟨n :: ns, by simp [h1], by simp [h2], by simp [h3]⟩
    · cases hb
theorem foldl_push : ∀ (ns : List Int) (r : ByteArray), ns.foldl (fun r n => r.push (UInt8.ofNat n.toNat)) r = ⟨(r.data.toList ++ ns.map (fun n => UInt8.ofNat n.toNat)).toArray⟩
  | [], r => by simp
  | n :: ns, r => by
    rw [List.foldl_cons, foldl_push ns]
    simp
theorem run_bytes (w : World) (ns : List Int) (b o c : Nat) (hc : ∀ j v, (ns.map (Value.int .u8))[j]? = some v → w.cell? ((⟨b, o, none⟩ : Addr).add j) = some v) (P : Program) :
    (Conv.bytesToString (.slice (some ⟨b, o, none⟩) ns.length c)).run P w = .ok (.string ⟨(ns.map (fun n => UInt8.ofNat n.toNat)).toArray⟩) w := by
  have hl := run_loadCells_list (P := P) w ⟨b, o, none⟩ (ns.map (Value.int .u8)) hc
  rw [List.length_map] at hl
  rw [run_bytesToString w _ _ c ns hl, foldl_push]
  rfl
theorem xconv_ok (R : Rel E.P κ h w) {s d : TypeId} {x v : V} {cx : Value} (hx : VRel κ x cx) (hf : xconv E s d x = some v) : ∃ c, (convert s d cx).run E.P w = .ok c w ∧ VRel κ v c := by
  unfold xconv at hf
  split at hf
  · rename_i sty ty k n hs hd
    split at hf
    case h_2 => cases hf
    rename_i k' hk
    obtain rfl := Option.some.inj hf
    obtain ⟨_, ds, hus, _, hfs⟩ := E.ok s sty hs
    obtain ⟨_, dd, hud, _, hfd⟩ := E.ok d ty hd
    rw [hk] at hfd
    obtain rfl : dd = .int k' := hfd
    cases hx
    exact ⟨_, by simp [convert, run_underlying hus, run_underlying hud, Conv.intToInt], .lit _⟩
  · rename_i sty ty b hs hd
    split at hf
    case h_2 => cases hf
    rename_i hk
    obtain rfl := Option.some.inj hf
    obtain ⟨_, ds, hus, _, hfs⟩ := E.ok s sty hs
    obtain ⟨_, dd, hud, _, hfd⟩ := E.ok d ty hd
    rw [hk] at hfd
    obtain rfl : dd = .string := hfd
    cases hx
    exact ⟨_, by simp [convert, run_underlying hus, run_underlying hud], .lit _⟩
  · rename_i sty ty id sz xs hs hd
    split at hf
    case h_2 => cases hf
    rename_i e hk1 hk2
    split at hf
    case isFalse => cases hf
    rename_i hc
    obtain ⟨he, hid, rfl⟩ := hc
    obtain ⟨_, ds, hus, _, hfs⟩ := E.ok s sty hs
    obtain ⟨_, dd, hud, _, hfd⟩ := E.ok d ty hd
    rw [hk2] at hfd
    obtain rfl : dd = .string := hfd
    rw [hk1] at hfs
    obtain rfl : ds = .slice e := hfs
    obtain ⟨ety, hTe, hed⟩ : ∃ ety, E.T e = some ety ∧ ety.desc = .int .u8 := by
      cases hq : E.T e with
      | none => rw [hq] at he; cases he
      | some ety =>
        refine ⟨ety, rfl, ?_⟩
        rw [hq] at he
        simp only [Option.map_some, Option.some.injEq] at he
        split at he
        · assumption
        · cases he
    obtain ⟨_, de, hue, _, hfe⟩ := E.ok e ety hTe
    rw [hed] at hfe
    obtain rfl : de = .int .u8 := hfe
    cases hb : xbytes xs with
    | none => rw [hb] at hf; cases hf
    | some l =>
      rw [hb] at hf
      obtain rfl := Option.some.inj hf
      cases hx with
      | nil => exact absurd rfl hid
      | slc hv hsz1 hone hcap hr hid' hrow =>
        rename_i b o c css
        obtain ⟨ns, h1, rfl, h3⟩ := xbytes_ok hv hb
        have hcell := rt_cells R hr
        rw [h1] at hcell
        have hrun := run_bytes w ns b o c hcell E.P
        rw [← h3] at hrun
        refine ⟨_, ?_, .lit _⟩
        simp [convert, run_underlying hus, run_underlying hud, run_underlying hue, hrun]
  · cases hf

theorem run_eq_bool {t : TypeId} (hu : E.P.underlying t = some .bool) (p q : Bool) : (Op.equal t (.bool p) (.bool q)).run E.P w = .ok (p == q) w := by
  have h1 : Op.equal t (.bool p) (.bool q) = Op.equalIn (9999 + 1) t (.bool p) (.bool q) := rfl
  rw [h1, Op.equalIn]
  simp only [Sem.run_bind, run_underlying hu, Result.andThen_ok]
  rfl
theorem run_guard_bool (op : BinOp) (t : TypeId) (x y : Operand) (p q : Bool) : (eqGuard op t x y (.bool p) (.bool q)).run E.P w = .ok () w := by
  cases op <;> rfl
def xnil : V → Option V
  | .ptr id off => some (.ptr id off)
  | .rp c off => some (.rp c off)
  | .fn f c => some (.fn f c)
  | .eptr id i off => some (.eptr id i off)
  | _ => none
def xbinop (E : Env) (op : BinOp) (t : TypeId) (x y : V) : Option V :=
  match x, y with
  | .lit (.bool p), .lit (.bool q) => match op, E.T t with
    | .eql, some ty => match ty.desc with
      | .bool => some (.lit (.bool (p == q)))
      | _ => none
    | .neq, some ty => match ty.desc with
      | .bool => some (.lit (.bool (!(p == q))))
      | _ => none
    | _, _ => none
  | .lit a, .lit b => (xbin op a b).map V.lit
  | _, _ => none
theorem xbinop_ok {op : BinOp} {t : TypeId} {ox oy : Operand} {x y v : V} {cx cy : Value} (hx : VRel κ x cx) (hy : VRel κ y cy) (hf : xbinop E op t x y = some v) :
    ∃ c, (do eqGuard op t ox oy cx cy; binOp op t cx cy : Sem Value).run E.P w = .ok c w ∧ VRel κ v c := by
  unfold xbinop at hf
  split at hf
  · rename_i p q
    cases hx; cases hy
    split at hf
    · rename_i ty hT
      split at hf
      case h_2 => cases hf
      rename_i hd
      obtain rfl := Option.some.inj hf
      obtain ⟨_, d, hu, _, hfit⟩ := E.ok t ty hT
      rw [hd] at hfit
      obtain rfl : d = .bool := hfit
      refine ⟨.bool (p == q), ?_, .lit _⟩
      simp only [Sem.run_bind, run_guard_bool, Result.andThen_ok]
      simp only [binOp, Sem.run_bind, run_eq_bool hu, Result.andThen_ok, Sem.run_pure]
    · rename_i ty hT
      split at hf
      case h_2 => cases hf
      rename_i hd
      obtain rfl := Option.some.inj hf
      obtain ⟨_, d, hu, _, hfit⟩ := E.ok t ty hT
      rw [hd] at hfit
      obtain rfl : d = .bool := hfit
      refine ⟨.bool (!(p == q)), ?_, .lit _⟩
      simp only [Sem.run_bind, run_guard_bool, Result.andThen_ok]
      simp only [binOp, Sem.run_bind, run_eq_bool hu, Result.andThen_ok, Sem.run_pure]
    · cases hf
  · rename_i a b _
    cases hx; cases hy
    cases hb : xbin op cx cy with
    | none => rw [hb] at hf; cases hf
    | some c =>
      rw [hb] at hf
      obtain rfl := Option.some.inj hf
      exact ⟨c, xbin_ok hb t ox oy w, .lit c⟩
  · cases hf

/-- An operation (no call of a function): its value, and the heap behind it. -/
def xop (E : Env) (op : Op) (fr : List V) (h : H) : Option (V × H) :=
  match op with
  | .move x => some (ev fr x, h)
  | .assign x => some (ev fr x, h)
  | .pick c a b => match ev fr c with
    | .lit (.bool t) => some (if t then ev fr a else ev fr b, h)
    | _ => none
  | .alloc t => match E.T t with
    | some ty => some (.ptr h.next 0, h.new (.cells ty.zero t))
    | none => none
  | .box t x => if (ev fr x).storable = true then some (.ptr h.next 0, h.new (.cells (ev fr x).cells t)) else none
  | .build t ps => (xbuild E t (ps.toList.map fun p => (p.1, ev fr p.2))).map (·, h)
  | .buildSlice t n ps => xbuildSlice E t n (ps.toList.map fun p => (p.1, ev fr p.2)) h
  | .load t a => (xload E t (ev fr a) h).map (·, h)
  | .store t a x => (xstore E t (ev fr a) (ev fr x) h).map fun h' => (.tup [], h')
  | .nilCheck x => (xnil (ev fr x)).map (·, h)
  | .binOp op t x y _ => (xbinop E op t (ev fr x) (ev fr y)).map (·, h)
  | .unOp op _ x => match ev fr x with
    | .lit a => (xun op a).map fun c => (.lit c, h)
    | _ => none
  | .convert s d x => (xconv E s d (ev fr x)).map (·, h)
  | .fieldAddr s x f => (xfieldAddr E s (ev fr x) f).map (·, h)
  | .field s x f => (xfield E s (ev fr x) f).map (·, h)
  | .indexAddr t x i => (xindexAddr E t (ev fr x) (ev fr i)).map (·, h)
  | .index t x i => (xindex E t (ev fr x) (ev fr i)).map (·, h)
  | .slice t x lo hi mx => xslice E t (ev fr x) (lo.map (ev fr)) (hi.map (ev fr)) (mx.map (ev fr)) h
  | .extract x i => match ev fr x with
    | .tup vs => vs[i]?.map (·, h)
    | _ => none
  | .makeFunc (.func f) first caps => if first = #[] ∧ (caps.toList.map (ev fr)).all V.one = true then some (.fn f (caps.toList.map (ev fr)), h) else none
  | .call { callee := .builtin b, args, argTypes } => xbuiltin E b argTypes.toList (args.toList.map (ev fr)) h
  | .makeSlice t l c => xmakeSlice E t (ev fr l) (ev fr c) h
  | .makeMap t none => match E.T t with
    | some ty => match ty.desc with
      | .map kt vt => some (.map h.next, h.new (.map kt vt []))
      | _ => none
    | none => none
  | .lookup t x i ok => (xlookup E t (ev fr x) (ev fr i) ok h).map (·, h)
  | .mapUpdate t m k x => (xmapUpdate E t (ev fr m) (ev fr k) (ev fr x) h).map fun h' => (.tup [], h')
  | _ => none
theorem map_some {α β : Type} {o : Option α} {f : α → β} {b : β} (h : o.map f = some b) : ∃ a, o = some a ∧ f a = b := Option.map_eq_some_iff.1 h
theorem VRels.of_map {f : Operand → V} {g : Operand → Value} (hfg : ∀ x, VRel κ (f x) (g x)) : ∀ xs : List Operand, VRels κ (xs.map f) (xs.map g)
  | [] => .nil
  | x :: xs => .cons (hfg x) (VRels.of_map hfg xs)
theorem ORelV.of_map {f : Operand → V} {g : Operand → Value} (hfg : ∀ x, VRel κ (f x) (g x)) (o : Option Operand) : ORelV κ (o.map f) (o.map g) := by
  cases o with
  | none => exact .none
  | some x => exact .some (hfg x)
theorem xop_ok (R : Rel E.P κ h w) {o : Oper} {fr : List V} {ρ : Operand → Value} (hev : ∀ x, VRel κ (ev fr x) (ρ x)) {v : V} {h' : H} (hx : xop E o.op fr h = some (v, h')) :
    GivesN E κ w (execOp ρ o) v h' := by
  obtain ⟨dst, op, type, pos, after, guard⟩ := o
  dsimp only at hx
  have one : ∀ {s : Sem Value}, (∃ c, s.run E.P w = .ok c w ∧ VRel κ v c) → GivesN E κ w (do pure (.value (← s))) v h := fun g => Gives.next (Gives.one R g)
  unfold xop at hx
  split at hx
  · simp only [Option.some.injEq, Prod.mk.injEq] at hx
    obtain ⟨rfl, rfl⟩ := hx
    exact ⟨_, _, w, κ, rfl, .inl rfl, .refl κ, hev _, R⟩
  · simp only [Option.some.injEq, Prod.mk.injEq] at hx
    obtain ⟨rfl, rfl⟩ := hx
    exact ⟨_, _, w, κ, rfl, .inl rfl, .refl κ, hev _, R⟩
  · rename_i c a b
    split at hx
    case h_2 => cases hx
    rename_i t ht
    simp only [Option.some.injEq, Prod.mk.injEq] at hx
    obtain ⟨rfl, rfl⟩ := hx
    have hc := hev c
    rw [ht] at hc
    generalize hq : ρ c = q at hc
    cases hc
    refine ⟨.value (if t then ρ a else ρ b), _, w, κ, by simp [execOp, hq, asBool], .inl rfl, .refl κ, ?_, R⟩
    cases t
    · exact hev b
    · exact hev a
  · rename_i t
    split at hx
    case h_2 => cases hx
    rename_i ty hT
    simp only [Option.some.injEq, Prod.mk.injEq] at hx
    obtain ⟨rfl, rfl⟩ := hx
    exact (xalloc_ok R hT).next
  · rename_i t x
    split at hx
    case isFalse => cases hx
    rename_i hs
    simp only [Option.some.injEq, Prod.mk.injEq] at hx
    obtain ⟨rfl, rfl⟩ := hx
    exact (xbox_ok R (hev x) hs).next
  · rename_i t ps
    obtain ⟨u, h1, h2⟩ := map_some hx
    simp only [Prod.mk.injEq] at h2
    obtain ⟨rfl, rfl⟩ := h2
    exact one (xbuild_ok hev h1)
  · rename_i t n ps
    exact (xbuildSlice_ok R hev hx).next
  · rename_i t a
    obtain ⟨u, h1, h2⟩ := map_some hx
    simp only [Prod.mk.injEq] at h2
    obtain ⟨rfl, rfl⟩ := h2
    exact one (xload_ok R (hev a) h1)
  · rename_i t a x
    obtain ⟨u, h1, h2⟩ := map_some hx
    simp only [Prod.mk.injEq] at h2
    obtain ⟨rfl, rfl⟩ := h2
    obtain ⟨w', h3, h4⟩ := xstore_ok R (hev a) (hev x) h1
    exact ⟨.skip, undef, w', κ, by simp [execOp, h3], .inr ⟨rfl, rfl⟩, .refl κ, .tup .nil, h4⟩
  · rename_i x
    obtain ⟨u, h1, h2⟩ := map_some hx
    simp only [Prod.mk.injEq] at h2
    obtain ⟨rfl, rfl⟩ := h2
    have hc := hev x
    refine ⟨.value (ρ x), _, w, κ, ?_, .inl rfl, .refl κ, ?_, R⟩
    · generalize hq : ev fr x = q at hc h1
      generalize hq2 : ρ x = q2 at hc
      cases hc <;> simp [xnil] at h1 <;> simp [execOp, hq2]
    · unfold xnil at h1
      split at h1 <;> first | (cases h1; done) | (obtain rfl := Option.some.inj h1; rename_i he; rw [← he]; exact hc)
  · rename_i op t x y yt
    obtain ⟨u, h1, h2⟩ := map_some hx
    simp only [Prod.mk.injEq] at h2
    obtain ⟨rfl, rfl⟩ := h2
    exact one (xbinop_ok (hev x) (hev y) h1)
  · rename_i op t x
    split at hx
    case h_2 => cases hx
    rename_i a ha
    obtain ⟨u, h1, h2⟩ := map_some hx
    simp only [Prod.mk.injEq] at h2
    obtain ⟨rfl, rfl⟩ := h2
    have hc := hev x
    rw [ha] at hc
    generalize hq : ρ x = q at hc
    cases hc
    refine ⟨.value u, u, w, κ, ?_, .inl rfl, .refl κ, .lit u, R⟩
    simp [execOp, hq, xun_ok h1]
  · rename_i s d x
    obtain ⟨u, h1, h2⟩ := map_some hx
    simp only [Prod.mk.injEq] at h2
    obtain ⟨rfl, rfl⟩ := h2
    exact one (xconv_ok R (hev x) h1)
  · rename_i s x f
    obtain ⟨u, h1, h2⟩ := map_some hx
    simp only [Prod.mk.injEq] at h2
    obtain ⟨rfl, rfl⟩ := h2
    exact one (xfieldAddr_ok (hev x) h1)
  · rename_i s x f
    obtain ⟨u, h1, h2⟩ := map_some hx
    simp only [Prod.mk.injEq] at h2
    obtain ⟨rfl, rfl⟩ := h2
    exact one (xfield_ok (hev x) h1)
  · rename_i t x i
    obtain ⟨u, h1, h2⟩ := map_some hx
    simp only [Prod.mk.injEq] at h2
    obtain ⟨rfl, rfl⟩ := h2
    exact one (xindexAddr_ok (hev x) (hev i) h1)
  · rename_i t x i
    obtain ⟨u, h1, h2⟩ := map_some hx
    simp only [Prod.mk.injEq] at h2
    obtain ⟨rfl, rfl⟩ := h2
    exact one (xindex_ok (hev x) (hev i) h1)
  · rename_i t x lo hi mx
    exact (xslice_ok R (hev x) (.of_map hev lo) (.of_map hev hi) (.of_map hev mx) hx).next
  · rename_i x i
    split at hx
    case h_2 => cases hx
    rename_i vs hvs
    obtain ⟨u, h1, h2⟩ := map_some hx
    simp only [Prod.mk.injEq] at h2
    obtain ⟨rfl, rfl⟩ := h2
    have hc := hev x
    rw [hvs] at hc
    generalize hq : ρ x = q at hc
    cases hc with
    | tup hv =>
      rename_i cvs
      obtain ⟨c, h3, h4⟩ := hv.get h1
      exact ⟨.value c, c, w, κ, by simp [execOp, hq, Instr.extract, h3], .inl rfl, .refl κ, h4, R⟩
  · rename_i f first caps
    split at hx
    case isFalse => cases hx
    rename_i hf
    obtain ⟨hf, hone⟩ := hf
    subst hf
    simp only [Option.some.injEq, Prod.mk.injEq] at hx
    obtain ⟨rfl, rfl⟩ := hx
    refine ⟨.value (.func (.func f) #[] (caps.map ρ)), _, w, κ, by simp [execOp, Instr.makeFunc], .inl rfl, .refl κ, ?_, R⟩
    have := VRel.fn f (VRels.of_map hev caps.toList) (fun c hc => List.all_eq_true.1 hone c hc)
    rw [← Array.toList_map (f := ρ)] at this
    exact this
  · rename_i b args argTypes
    have ha := VRels.of_map hev args.toList
    have := xbuiltin_ok R (ty := type) (consts := args.map fun | .const _ => true | _ => false) (cargs := args.map ρ) (by simpa using ha) hx
    obtain ⟨n, c, w', κ', h1, h2⟩ := this
    refine ⟨n, c, w', κ', ?_, h2⟩
    rw [← h1]
    rfl
  · rename_i t l c
    exact (xmakeSlice_ok R (hev l) (hev c) hx).next
  · rename_i t
    split at hx
    case h_2 => cases hx
    rename_i ty hT
    split at hx
    case h_2 => cases hx
    rename_i kt vt hd
    simp only [Option.some.injEq, Prod.mk.injEq] at hx
    obtain ⟨rfl, rfl⟩ := hx
    exact (xmakeMap_ok R t kt vt).next
  · rename_i t x i ok
    obtain ⟨u, h1, h2⟩ := map_some hx
    simp only [Prod.mk.injEq] at h2
    obtain ⟨rfl, rfl⟩ := h2
    exact one (xlookup_ok R (hev x) (hev i) h1)
  · rename_i t m k x
    obtain ⟨u, h1, h2⟩ := map_some hx
    simp only [Prod.mk.injEq] at h2
    obtain ⟨rfl, rfl⟩ := h2
    obtain ⟨w', h3, h4⟩ := xmapUpdate_ok R (hev m) (hev k) (hev x) h1
    exact ⟨.skip, undef, w', κ, by simp [execOp, h3], .inr ⟨rfl, rfl⟩, .refl κ, .tup .nil, h4⟩
  · cases hx
end
end Go.Proofs.YtjofmihdeblbmaaGreatDoor.Xa

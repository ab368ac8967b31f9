/- XA, joined: XaH. -/
import Derived.Test.YtjofmihdeblbmaaGreatDoorXaM08
/- XA, part H: fields, indexes, lengths; all operations in one. -/
namespace Go.Proofs.YtjofmihdeblbmaaGreatDoor.Xa
open Go Go.RowKit
set_option linter.unusedVariables false
set_option linter.unusedSimpArgs false
section
variable {E : Env} {κ : Kp} {h : H} {w : World}

def fieldOf (E : Env) (s : TypeId) (f : Nat) : Option (Nat × Ty) :=
  match E.T s with
  | some ty => match ty.desc with
    | .struct fs => match fs[f]? with
      | some (o, t) => match E.T t with
        | some ft => some (o, ft)
        | none => none
      | none => none
    | _ => none
  | none => none
theorem fieldOf_ok {s : TypeId} {f o : Nat} {ft : Ty} (hf : fieldOf E s f = some (o, ft)) :
    ∃ F fd t i d, E.P.underlying s = some (.struct F) ∧ F[f]? = some fd ∧ fd.offset = o ∧ fd.type = t ∧ E.T t = some ft ∧ E.P.info? t = some i ∧ i.size = ft.size ∧ E.P.underlying t = some d ∧ descAgg d = ft.agg := by
  unfold fieldOf at hf
  split at hf
  case h_2 => cases hf
  rename_i ty hT
  split at hf
  case h_2 => cases hf
  rename_i fs hd
  split at hf
  case h_2 => cases hf
  rename_i o' t hfs
  split at hf
  case h_2 => cases hf
  rename_i ft' hTt
  simp only [Option.some.injEq, Prod.mk.injEq] at hf
  obtain ⟨rfl, rfl⟩ := hf
  obtain ⟨_, d, hu, _, hfit⟩ := E.ok s ty hT
  rw [hd] at hfit
  obtain ⟨F, rfl, hF⟩ := hfit
  obtain ⟨⟨i, z, hi, hs, _⟩, d', hu', ha', _⟩ := E.ok t ft' hTt
  rw [← hF] at hfs
  simp only [List.getElem?_map, Option.map_eq_some_iff, Array.getElem?_toList] at hfs
  obtain ⟨fd, h1, h2⟩ := hfs
  simp only [Prod.mk.injEq] at h2
  exact ⟨F, fd, t, i, d', hu, h1, h2.1, h2.2, hTt, hi, hs, hu', ha'⟩

def xfieldAddr (E : Env) (s : TypeId) (x : V) (f : Nat) : Option V :=
  match fieldOf E s f, x with
  | some (o, ft), .ptr id off => if ft.size ≠ 0 then some (.ptr id (off + o)) else none
  | some (o, ft), .rp cells off => if ft.size ≠ 0 then some (.rp cells (off + o)) else none
  | some (o, ft), .eptr id i off => if ft.size ≠ 0 then some (.eptr id i (off + o)) else none
  | _, _ => none
theorem xfieldAddr_ok {s : TypeId} {x v : V} {f : Nat} {cx : Value} (hx : VRel κ x cx) (hf : xfieldAddr E s x f = some v) : ∃ c, (Instr.fieldAt s cx f).run E.P w = .ok c w ∧ VRel κ v c := by
  unfold xfieldAddr at hf
  split at hf
  · rename_i o ft id off hfo
    split at hf
    case isFalse => cases hf
    rename_i hne
    obtain rfl := Option.some.inj hf
    obtain ⟨F, fd, t, i, d, hu, h1, h2, h3, hT, hi, hs, _⟩ := fieldOf_ok hfo
    cases hx with
    | ptr off hb =>
      rename_i b
      refine ⟨.pointer (some ⟨b, off + o, none⟩), ?_, .ptr _ hb⟩
      subst h3; subst h2
      have hsz : (sizeOf fd.type).run E.P w = .ok i.size w := by simp [sizeOf, typeInfo, hi]
      simp [Instr.fieldAt, run_underlying hu, h1, Instr.sureAddr, fieldPlace, hsz, hs, hne, Addr.add_mid]
  · rename_i o ft cells off hfo
    split at hf
    case isFalse => cases hf
    rename_i hne
    obtain rfl := Option.some.inj hf
    obtain ⟨F, fd, t, i, d, hu, h1, h2, h3, hT, hi, hs, _⟩ := fieldOf_ok hfo
    cases hx with
    | rp off hc h4 hr =>
      rename_i ccs b o'
      refine ⟨.pointer (some ⟨b, o' + (off + o), none⟩), ?_, .rp _ hc h4 hr⟩
      subst h3; subst h2
      have hsz : (sizeOf fd.type).run E.P w = .ok i.size w := by simp [sizeOf, typeInfo, hi]
      simp [Instr.fieldAt, run_underlying hu, h1, Instr.sureAddr, fieldPlace, hsz, hs, hne, Addr.add_mid, Nat.add_assoc]
  · rename_i o ft id i off hfo
    split at hf
    case isFalse => cases hf
    rename_i hne
    obtain rfl := Option.some.inj hf
    obtain ⟨F, fd, t, ii, d, hu, h1, h2, h3, hT, hi, hs, _⟩ := fieldOf_ok hfo
    cases hx with
    | eptr hb =>
      rename_i k
      refine ⟨.pointer (some ⟨k.b, k.o + i * k.sz + (off + o), none⟩), ?_, .eptr hb⟩
      subst h3; subst h2
      have hsz : (sizeOf fd.type).run E.P w = .ok ii.size w := by simp [sizeOf, typeInfo, hi]
      simp [Instr.fieldAt, run_underlying hu, h1, Instr.sureAddr, fieldPlace, hsz, hs, hne, Addr.add_mid, Nat.add_assoc]
  · cases hf

def xfield (E : Env) (s : TypeId) (x : V) (f : Nat) : Option V :=
  match fieldOf E s f, x with
  | some (o, ft), .agg cs => if o + ft.size ≤ cs.length then mk ft ((cs.drop o).take ft.size) else none
  | _, _ => none
theorem xfield_ok {s : TypeId} {x v : V} {f : Nat} {cx : Value} (hx : VRel κ x cx) (hf : xfield E s x f = some v) : ∃ c, (Instr.field s cx f).run E.P w = .ok c w ∧ VRel κ v c := by
  unfold xfield at hf
  split at hf
  case h_2 => cases hf
  rename_i o ft cs hfo
  split at hf
  case isFalse => cases hf
  rename_i hle
  obtain ⟨F, fd, t, i, d, hu, h1, h2, h3, hT, hi, hs, hu', ha'⟩ := fieldOf_ok hfo
  cases hx with
  | agg hv h1' =>
    rename_i ccs
    subst h3; subst h2
    have hv2 := (hv.drop fd.offset).take ft.size
    have hag : (isAgg fd.type).run E.P w = .ok (descAgg d) w := by
      simp only [isAgg, Sem.run_bind, run_underlying hu', Result.andThen_ok]
      cases d <;> rfl
    have hsz : (sizeOf fd.type).run E.P w = .ok i.size w := by simp [sizeOf, typeInfo, hi]
    unfold mk at hf
    by_cases ha : ft.agg = true
    · rw [if_pos ha] at hf
      obtain rfl := Option.some.inj hf
      refine ⟨.agg ((ccs.drop fd.offset).take ft.size).toArray, ?_, .agg hv2 (fun c hc => h1' c (List.mem_of_mem_drop (List.mem_of_mem_take hc)))⟩
      simp [Instr.field, run_underlying hu, h1, asAgg, part, hag, ha', ha, hsz, hs, List.extract_eq_take_drop]
    · rw [if_neg ha] at hf
      split at hf
      case h_2 => cases hf
      rename_i v' hv'
      obtain rfl := Option.some.inj hf
      rw [hv'] at hv2
      obtain ⟨c, ds, hcs, hvc, hnil⟩ := hv2.inv_cons
      have := hnil.inv_nil; subst this
      have hg : ccs[fd.offset]? = some c := by
        have : ((ccs.drop fd.offset).take ft.size)[0]? = some c := by rw [hcs]; rfl
        rw [List.getElem?_take_of_lt (by
          have := congrArg List.length hcs
          simp at this; omega), List.getElem?_drop] at this
        simpa using this
      refine ⟨c, ?_, hvc⟩
      simp [Instr.field, run_underlying hu, h1, asAgg, part, hag, ha', ha, hg]

def xindexAddr (E : Env) (t : TypeId) (x i : V) : Option V :=
  match E.T t, x, i with
  | some ty, .slc id sz xs, .lit (.int k n) => match ty.desc with
    | .slc e => if 0 ≤ n ∧ n < xs.length ∧ (E.T e).map (·.size) = some sz then match xs[n.toNat]? with
        | some x => some (.rp x 0)
        | none => none
      else none
    | _ => none
  | some ty, .msl id off m sz, .lit (.int k n) => match ty.desc with
    | .slc e => if 0 ≤ n ∧ n < m ∧ (E.T e).map (·.size) = some sz then some (.eptr id (off + n.toNat) 0) else none
    | _ => none
  | _, _, _ => none
theorem xindexAddr_ok {t : TypeId} {x i v : V} {cx ci : Value} (hx : VRel κ x cx) (hi : VRel κ i ci) (hf : xindexAddr E t x i = some v) : ∃ c, (Instr.indexAt t cx ci).run E.P w = .ok c w ∧ VRel κ v c := by
  unfold xindexAddr at hf
  split at hf
  case h_3 => cases hf
  case h_2 =>
    rename_i ty id off m sz k n hT
    split at hf
    case h_2 => cases hf
    rename_i e hd
    split at hf
    case isFalse => cases hf
    rename_i hc
    obtain ⟨h0, h1, hsz⟩ := hc
    obtain rfl := Option.some.inj hf
    obtain ⟨_, d, hu, _, hfit⟩ := E.ok t ty hT
    rw [hd] at hfit
    obtain rfl : d = .slice e := hfit
    obtain ⟨ety, hTe, hez⟩ : ∃ ety, E.T e = some ety ∧ ety.size = sz := by
      cases hq : E.T e with
      | none => rw [hq] at hsz; cases hsz
      | some ety => rw [hq] at hsz; exact ⟨ety, rfl, Option.some.inj hsz⟩
    obtain ⟨⟨ie, z, hie, hsi, _⟩, _⟩ := E.ok e ety hTe
    cases hi
    cases hx with
    | msl hk hks hcap hn =>
      rename_i c k
      refine ⟨.pointer (some ⟨k.b, k.o + off * sz + n.toNat * sz, none⟩), ?_, ?_⟩
      · have hs : (sizeOf e).run E.P w = .ok ie.size w := by simp [sizeOf, typeInfo, hie]
        simp [Instr.indexAt, asIntOf, run_underlying hu, h0, h1, hs, hsi, hez, Addr.add_mid]
      · have := VRel.eptr (κ := κ) (i := off + n.toNat) (off := 0) hk
        rw [hks, Nat.add_mul, Nat.add_zero, ← Nat.add_assoc] at this
        exact this
  rename_i ty id sz xs k n hT
  split at hf
  case h_2 => cases hf
  rename_i e hd
  split at hf
  case isFalse => cases hf
  rename_i hc
  obtain ⟨h0, h1, hsz⟩ := hc
  split at hf
  case h_2 => cases hf
  rename_i x' hx'
  obtain rfl := Option.some.inj hf
  obtain ⟨_, d, hu, _, hfit⟩ := E.ok t ty hT
  rw [hd] at hfit
  obtain rfl : d = .slice e := hfit
  obtain ⟨ety, hTe, hez⟩ : ∃ ety, E.T e = some ety ∧ ety.size = sz := by
    cases hq : E.T e with
    | none => rw [hq] at hsz; cases hsz
    | some ety => rw [hq] at hsz; exact ⟨ety, rfl, Option.some.inj hsz⟩
  obtain ⟨⟨ie, z, hie, hsi, _⟩, _⟩ := E.ok e ety hTe
  cases hi
  cases hx with
  | nil => simp at h1; omega
  | slc hv hsz1 hone hcap hr hid hrow =>
    rename_i b o c css
    obtain ⟨ccs, h2, h3⟩ := hv.get hx'
    refine ⟨.pointer (some ⟨b, o + n.toNat * sz + 0, none⟩), ?_, .rp 0 h3 (hone x' (List.mem_of_getElem? hx')) ?_⟩
    · have hs : (sizeOf e).run E.P w = .ok ie.size w := by simp [sizeOf, typeInfo, hie]
      simp [Instr.indexAt, asIntOf, run_underlying hu, h0, h1, hs, hsi, hez, Addr.add_mid]
    · obtain ⟨l, q1, q2⟩ := hr
      refine ⟨l, q1, ?_⟩
      rw [← List.drop_drop]
      have hcs := hv.sizes hsz1
      have e1 : css.flatten = (css.take n.toNat).flatten ++ (ccs ++ (css.drop (n.toNat + 1)).flatten) := by
        rw [← List.flatten_cons, ← List.flatten_append]
        congr 1
        have hlt : n.toNat < css.length := (List.getElem?_eq_some_iff.1 h2).1
        have hg : css[n.toNat] = ccs := (List.getElem?_eq_some_iff.1 h2).2
        conv => lhs; rw [← List.take_append_drop n.toNat css, List.drop_eq_getElem_cons hlt, hg]
      have e2 : (css.take n.toNat).flatten.length = n.toNat * sz := by
        rw [flatten_len (sz := sz) (fun r hr => hcs r (List.mem_of_mem_take hr)), List.length_take]
        congr 1
        have : n.toNat < css.length := (List.getElem?_eq_some_iff.1 h2).1
        omega
      have q3 := prefix_drop q2 (n.toNat * sz)
      rw [e1, ← e2, List.drop_left] at q3
      rw [← e2]
      exact (List.prefix_append _ _).trans q3

def xindex (E : Env) (t : TypeId) (x i : V) : Option V :=
  match E.T t, x, i with
  | some ty, .lit (.string s), .lit (.int k n) => match ty.desc with
    | .str => if 0 ≤ n then match s[n.toNat]? with
        | some b => some (.lit (.int .u8 b.toNat))
        | none => none
      else none
    | _ => none
  | _, _, _ => none
theorem xindex_ok {t : TypeId} {x i v : V} {cx ci : Value} (hx : VRel κ x cx) (hi : VRel κ i ci) (hf : xindex E t x i = some v) : ∃ c, (Instr.index t cx ci).run E.P w = .ok c w ∧ VRel κ v c := by
  unfold xindex at hf
  split at hf
  case h_2 => cases hf
  rename_i ty s k n hT
  split at hf
  case h_2 => cases hf
  rename_i hd
  split at hf
  case isFalse => cases hf
  rename_i h0
  split at hf
  case h_2 => cases hf
  rename_i b hb
  obtain rfl := Option.some.inj hf
  obtain ⟨_, d, hu, _, hfit⟩ := E.ok t ty hT
  rw [hd] at hfit
  obtain rfl : d = .string := hfit
  cases hx; cases hi
  refine ⟨.int .u8 b.toNat, ?_, .lit _⟩
  simp [Instr.index, asIntOf, run_underlying hu, h0, hb]

/-- len, append, min, max -/
def xbuiltin (E : Env) (b : Builtin) (ts : List TypeId) (args : List V) (h : H) : Option (V × H) :=
  match b, ts, args with
  | .len, [t], [.lit (.string s)] => match E.T t with
    | some ty => match ty.desc with
      | .str => some (.lit (.int .i64 s.size), h)
      | _ => none
    | none => none
  | .len, [t], [.slc id sz xs] => match E.T t with
    | some ty => match ty.desc with
      | .slc e => some (.lit (.int .i64 xs.length), h)
      | _ => none
    | none => none
  | .len, [t], [.msl id off n sz] => match E.T t with
    | some ty => match ty.desc with
      | .slc e => some (.lit (.int .i64 n), h)
      | _ => none
    | none => none
  | .append, [t, t'], [s, x] => if t = t' then (if isM E t s = true then xappendM E t s x h else xappend E t s x h) else none
  | .min, _, [.lit (.int k a), .lit (.int k' b)] => some (.lit (.int k (if b < a then b else a)), h)
  | .max, _, [.lit (.int k a), .lit (.int k' b)] => some (.lit (.int k (if b > a then b else a)), h)
  | .max, _, [.lit (.int k a), .lit (.int _ b), .lit (.int _ d)] => some (.lit (.int k (if d > (if b > a then b else a) then d else (if b > a then b else a))), h)
  | _, _, _ => none
def GivesN (E : Env) (κ : Kp) (w : World) (s : Sem Next) (v : V) (h' : H) : Prop :=
  ∃ n c w' κ', s.run E.P w = .ok n w' ∧ (n = .value c ∨ (n = .skip ∧ c = undef)) ∧ κ.le κ' ∧ VRel κ' v c ∧ Rel E.P κ' h' w'
theorem Gives.next {s : Sem Value} {v : V} {h' : H} (g : Gives E κ w s v h') : GivesN E κ w (do pure (.value (← s))) v h' := by
  obtain ⟨c, w', κ', h1, h2, h3, h4⟩ := g
  exact ⟨.value c, c, w', κ', by simp [h1], .inl rfl, h2, h3, h4⟩
theorem Gives.one (R : Rel E.P κ h w) {s : Sem Value} {v : V} (g : ∃ c, s.run E.P w = .ok c w ∧ VRel κ v c) : Gives E κ w s v h := by
  obtain ⟨c, h1, h2⟩ := g
  exact Gives.same R h1 h2
theorem xbuiltin_ok (R : Rel E.P κ h w) {b : Builtin} {ts : Array TypeId} {ty : TypeId} {consts : Array Bool} {args : List V} {cargs : Array Value} {v : V} {h' : H} (ha : VRels κ args cargs.toList)
    (hx : xbuiltin E b ts.toList args h = some (v, h')) : GivesN E κ w (builtin b ts ty consts cargs) v h' := by
  unfold xbuiltin at hx
  split at hx
  · rename_i t s hts
    split at hx
    case h_2 => cases hx
    rename_i tyv hT
    split at hx
    case h_2 => cases hx
    rename_i hd
    simp only [Option.some.injEq, Prod.mk.injEq] at hx
    obtain ⟨rfl, rfl⟩ := hx
    obtain ⟨_, d, hu, _, hfit⟩ := E.ok t tyv hT
    rw [hd] at hfit
    obtain rfl : d = .string := hfit
    obtain ⟨c, ds, hc, hv, hn⟩ := ha.inv_cons
    have := hn.inv_nil; subst this
    cases hv
    have e1 : cargs = #[.string s] := by cases cargs; simp_all
    have e2 : ts = #[t] := by cases ts; simp_all
    subst e1; subst e2
    refine Gives.next (Gives.same R (c := .int .i64 s.size) ?_ (.lit _))
    simp [Builtin.len_, run_underlying hu, goInt]
  · rename_i t id sz xs hts
    split at hx
    case h_2 => cases hx
    rename_i tyv hT
    split at hx
    case h_2 => cases hx
    rename_i e hd
    simp only [Option.some.injEq, Prod.mk.injEq] at hx
    obtain ⟨rfl, rfl⟩ := hx
    obtain ⟨_, d, hu, _, hfit⟩ := E.ok t tyv hT
    rw [hd] at hfit
    obtain rfl : d = .slice e := hfit
    obtain ⟨c, ds, hc, hv, hn⟩ := ha.inv_cons
    have := hn.inv_nil; subst this
    obtain ⟨a, cp, rfl⟩ : ∃ a cp, c = .slice a xs.length cp := by
      cases hv with
      | nil => exact ⟨_, _, rfl⟩
      | slc => exact ⟨_, _, rfl⟩
    have e1 : cargs = #[.slice a xs.length cp] := by cases cargs; simp_all
    have e2 : ts = #[t] := by cases ts; simp_all
    subst e1; subst e2
    refine Gives.next (Gives.same R (c := .int .i64 xs.length) ?_ (.lit _))
    simp [Builtin.len_, run_underlying hu, goInt]
  · rename_i t id off n sz hts
    split at hx
    case h_2 => cases hx
    rename_i tyv hT
    split at hx
    case h_2 => cases hx
    rename_i e hd
    simp only [Option.some.injEq, Prod.mk.injEq] at hx
    obtain ⟨rfl, rfl⟩ := hx
    obtain ⟨_, d, hu, _, hfit⟩ := E.ok t tyv hT
    rw [hd] at hfit
    obtain rfl : d = .slice e := hfit
    obtain ⟨c, ds, hc, hv, hn⟩ := ha.inv_cons
    have := hn.inv_nil; subst this
    obtain ⟨a, cp, rfl⟩ : ∃ a cp, c = .slice a n cp := by
      cases hv with
      | msl => exact ⟨_, _, rfl⟩
    have e1 : cargs = #[.slice a n cp] := by cases cargs; simp_all
    have e2 : ts = #[t] := by cases ts; simp_all
    subst e1; subst e2
    refine Gives.next (Gives.same R (c := .int .i64 n) ?_ (.lit _))
    simp [Builtin.len_, run_underlying hu, goInt]
  · rename_i t t' s x hts
    split at hx
    case isFalse => cases hx
    rename_i ht
    subst ht
    obtain ⟨c, ds, hc, hv, hn⟩ := ha.inv_cons
    obtain ⟨c2, ds2, hc2, hv2, hn2⟩ := hn.inv_cons
    have := hn2.inv_nil; subst this
    subst hc2
    have e1 : cargs = #[c, c2] := by cases cargs; simp_all
    have e2 : ts = #[t, t] := by cases ts; simp_all
    subst e1; subst e2
    split at hx
    · exact Gives.next (xappendM_ok R hv hv2 hx)
    · exact Gives.next (xappend_ok R hv hv2 hx)
  · rename_i k a k' b'
    simp only [Option.some.injEq, Prod.mk.injEq] at hx
    obtain ⟨rfl, rfl⟩ := hx
    obtain ⟨c, ds, hc, hv, hn⟩ := ha.inv_cons
    obtain ⟨c2, ds2, hc2, hv2, hn2⟩ := hn.inv_cons
    have := hn2.inv_nil; subst this
    subst hc2
    cases hv; cases hv2
    have e1 : cargs = #[.int k a, .int k' b'] := by cases cargs; simp_all
    subst e1
    refine Gives.next (Gives.same R (c := .int k (if b' < a then b' else a)) ?_ (.lit _))
    simp [Builtin.min_, Builtin.min2]
  · rename_i k a k' b'
    simp only [Option.some.injEq, Prod.mk.injEq] at hx
    obtain ⟨rfl, rfl⟩ := hx
    obtain ⟨c, ds, hc, hv, hn⟩ := ha.inv_cons
    obtain ⟨c2, ds2, hc2, hv2, hn2⟩ := hn.inv_cons
    have := hn2.inv_nil; subst this
    subst hc2
    cases hv; cases hv2
    have e1 : cargs = #[.int k a, .int k' b'] := by cases cargs; simp_all
    subst e1
    refine Gives.next (Gives.same R (c := .int k (if b' > a then b' else a)) ?_ (.lit _))
    simp [Builtin.max_, Builtin.max2]
  · rename_i k a k1 b' k2 d'
    simp only [Option.some.injEq, Prod.mk.injEq] at hx
    obtain ⟨rfl, rfl⟩ := hx
    obtain ⟨c, ds, hc, hv, hn⟩ := ha.inv_cons
    obtain ⟨c2, ds2, hc2, hv2, hn2⟩ := hn.inv_cons
    obtain ⟨c3, ds3, hc3, hv3, hn3⟩ := hn2.inv_cons
    have := hn3.inv_nil; subst this
    subst hc3
    subst hc2
    cases hv; cases hv2; cases hv3
    have e1 : cargs = #[.int k a, .int k1 b', .int k2 d'] := by cases cargs; simp_all
    subst e1
    refine Gives.next (Gives.same R (c := .int k (if d' > (if b' > a then b' else a) then d' else (if b' > a then b' else a))) ?_ (.lit _))
    simp [Builtin.max_, Builtin.max2]
  · cases hx
end
end Go.Proofs.YtjofmihdeblbmaaGreatDoor.Xa

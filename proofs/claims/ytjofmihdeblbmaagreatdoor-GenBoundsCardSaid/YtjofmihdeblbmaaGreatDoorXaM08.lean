/- XA, joined: XaG. -/
import Derived.Test.YtjofmihdeblbmaaGreatDoorXaM07
/- XA, part G: the remaining operations, and all of them in one. -/
namespace Go.Proofs.YtjofmihdeblbmaaGreatDoor.Xa
open Go Go.RowKit
set_option linter.unusedVariables false
set_option linter.unusedSimpArgs false
section
variable {E : Env} {κ : Kp} {h : H} {w : World}

/-- operands that may be lacking -/
inductive ORelV (κ : Kp) : Option V → Option Value → Prop
  | none : ORelV κ none none
  | some {v : V} {c : Value} (h : VRel κ v c) : ORelV κ (some v) (some c)
theorem xint_some {ov : Option V} {oc : Option Value} {d : Nat} {n : Int} (hr : ORelV κ ov oc) (h : xint ov d = some n) : (oc = none ∧ n = d) ∨ ∃ k, oc = some (.int k n) := by
  cases hr with
  | none => simp only [xint, Option.some.injEq] at h; exact .inl ⟨rfl, h.symm⟩
  | some hv =>
    unfold xint at h
    split at h
    · rename_i he; cases he
    · rename_i k n' he
      simp only [Option.some.injEq] at he h
      subst he
      cases hv
      subst h
      exact .inr ⟨k, rfl⟩
    · cases h
theorem sliceBound_ok {k : IntKind} {i : Int} {y : Nat} {code : BoundsCode} (h0 : 0 ≤ i) (h1 : i ≤ y) : (Instr.sliceBound (.int k i) y code).run E.P w = .ok i.toNat w := by
  simp [Instr.sliceBound, asIntOf, h0, h1]
/-- what a cut of a slice comes to -/
theorem slice_key {t e : TypeId} {sz n : Nat} {l u m : Int} {lo hi mx : Option V} {clo chi cmx : Option Value} (hu : E.P.underlying t = some (.slice e)) {i : TypeInfo} (hi' : E.P.info? e = some i) (hsz : i.size = sz) (hl : ORelV κ lo clo) (hh : ORelV κ hi chi) (hm : ORelV κ mx cmx)
    (hxl : xint lo 0 = some l) (hxu : xint hi n = some u) (hxm : xint mx n = some m) (h0 : 0 ≤ l) (h1 : l ≤ u) (h2 : u ≤ m) (h3 : m ≤ n) (hmh : mx.isSome = true → hi.isSome = true) (a : Option Addr) (c : Nat) (hc : n ≤ c) :
    (Instr.sliceAt t (.slice a n c) clo chi cmx).run E.P w =
        .ok (.slice (if (if cmx = none then c else m.toNat) = l.toNat then a else a.map (·.add (l.toNat * sz))) (u.toNat - l.toNat) ((if cmx = none then c else m.toNat) - l.toNat)) w := by
  have hl' := xint_some hl hxl
  have hu' := xint_some hh hxu
  have hm' := xint_some hm hxm
  rcases hl' with ⟨rfl, rfl⟩ | ⟨kl, rfl⟩ <;> rcases hu' with ⟨rfl, rfl⟩ | ⟨ku, rfl⟩ <;> rcases hm' with ⟨rfl, rfl⟩ | ⟨km, rfl⟩
  all_goals first
    | (cases hm; cases hh; simp at hmh; done)
    | skip
  · simp [Instr.sliceAt, Instr.slice, Instr.sliceBounds, run_underlying hu, sizeOf, typeInfo, hi', hsz]
  · have hb1 := sliceBound_ok (E := E) (w := w) (k := ku) (i := u) (y := c) (code := .sliceAcap) (by omega) (by omega)
    simp [Instr.sliceAt, Instr.slice, Instr.sliceBounds, run_underlying hu, sizeOf, typeInfo, hi', hsz, hb1]
  · have hb1 := sliceBound_ok (E := E) (w := w) (k := ku) (i := u) (y := m.toNat) (code := .slice3B) (by omega) (by omega)
    have hb3 := sliceBound_ok (E := E) (w := w) (k := km) (i := m) (y := c) (code := .slice3Acap) (by omega) (by omega)
    simp [Instr.sliceAt, Instr.slice, Instr.sliceBounds, run_underlying hu, sizeOf, typeInfo, hi', hsz, hb1, hb3]
  · have hb2 := sliceBound_ok (E := E) (w := w) (k := kl) (i := l) (y := n) (code := .sliceB) (by omega) (by omega)
    simp [Instr.sliceAt, Instr.slice, Instr.sliceBounds, run_underlying hu, sizeOf, typeInfo, hi', hsz, hb2]
  · have hb1 := sliceBound_ok (E := E) (w := w) (k := ku) (i := u) (y := c) (code := .sliceAcap) (by omega) (by omega)
    have hb2 := sliceBound_ok (E := E) (w := w) (k := kl) (i := l) (y := u.toNat) (code := .sliceB) (by omega) (by omega)
    simp [Instr.sliceAt, Instr.slice, Instr.sliceBounds, run_underlying hu, sizeOf, typeInfo, hi', hsz, hb1, hb2]
  · have hb1 := sliceBound_ok (E := E) (w := w) (k := ku) (i := u) (y := m.toNat) (code := .slice3B) (by omega) (by omega)
    have hb3 := sliceBound_ok (E := E) (w := w) (k := km) (i := m) (y := c) (code := .slice3Acap) (by omega) (by omega)
    have hb2 := sliceBound_ok (E := E) (w := w) (k := kl) (i := l) (y := u.toNat) (code := .slice3C) (by omega) (by omega)
    simp [Instr.sliceAt, Instr.slice, Instr.sliceBounds, run_underlying hu, sizeOf, typeInfo, hi', hsz, hb1, hb2, hb3]
/-- An array goes on under a new number: from some element on, with so much room. -/
theorem alias_ok (R : Rel E.P κ h w) {id off m cap o' sz : Nat} {a : Arr} {k : Blk} (ha : h.arr id = some a) (hk : κ.arr id = some k) (hs : k.sz = sz) (hcap : m ≤ cap) (hcm : off + cap ≤ k.cap) (hle : off + m ≤ a.rows.length) (ho : o' = k.o + off * sz ∨ cap = 0 ∧ o' ≤ k.o + off * sz) :
    κ.le (κ.withArr ⟨k.b, o', cap, sz⟩) ∧ Rel E.P (κ.withArr ⟨k.b, o', cap, sz⟩) (h.moveArr id ⟨(a.rows.drop off).take m, sz, a.e⟩) w ∧ (κ.withArr ⟨k.b, o', cap, sz⟩).arr h.next = some ⟨k.b, o', cap, sz⟩ := by
  obtain ⟨k', hk', hA⟩ := R.arr id a ha
  rw [hk] at hk'
  obtain rfl := Option.some.inj hk'
  obtain ⟨ccs, css, h1, h2, h3, h4⟩ := hA.held
  have hcs := h2.sizes hA.len
  have hle' := R.withArr_le ⟨k.b, o', cap, sz⟩
  have hasz : a.sz = sz := by rw [← hA.sz, hs]
  have hm : ((a.rows.drop off).take m).length = m := by simp; omega
  refine ⟨hle', ?_, R.withArr_at _⟩
  have hmul : (off + cap) * sz ≤ k.cap * sz := Nat.mul_le_mul_right _ hcm
  rw [Nat.add_mul] at hmul
  rw [hs] at h4
  refine R.moveArr ha hk rfl ⟨rfl, by rw [← hasz]; exact hA.pos, ⟨ccs, (css.drop off).take m, h1, ((h2.drop off).take m).mono hle', ?_, ?_⟩, fun r hr => ?_, fun r hr => hA.ones r (List.mem_of_mem_drop (List.mem_of_mem_take hr)), ?_, ?_, ?_⟩ (fun _ _ => rfl) rfl (Below.refl _ w)
  · rcases ho with rfl | ⟨h5, h6⟩
    · have p1 := flat_take_prefix (css.drop off) m
      rw [← flat_drop hcs off, hasz] at p1
      have p2 := prefix_drop h3 (off * sz)
      rw [List.drop_drop] at p2
      exact p1.trans p2
    · have : m = 0 := by omega
      subst this
      simp
  · show o' + cap * sz ≤ ccs.size
    rcases ho with rfl | ⟨rfl, h6⟩
    · omega
    · omega
  · show r.length = sz
    rw [← hasz]; exact hA.len r (List.mem_of_mem_drop (List.mem_of_mem_take hr))
  · show _ ≤ cap
    rw [hm]; exact hcap
  · have := hA.most
    show cap ≤ maxLen
    omega
  · show E.P.cellsOf a.e = sz
    rw [← hasz]; exact hA.typ
theorem xslice_ok (R : Rel E.P κ h w) {t : TypeId} {x v : V} {lo hi mx : Option V} {cx : Value} {clo chi cmx : Option Value} {h' : H} (hx : VRel κ x cx) (hl : ORelV κ lo clo) (hh : ORelV κ hi chi) (hm : ORelV κ mx cmx)
    (hs : xslice E t x lo hi mx h = some (v, h')) : Gives E κ w (Instr.sliceAt t cx clo chi cmx) v h' := by
  unfold xslice at hs
  split at hs
  case h_4 => cases hs
  case h_1 =>
    rename_i ty s hT
    split at hs
    case h_2 => cases hs
    rename_i l u hd hxl hxu
    split at hs
    case isFalse => cases hs
    rename_i hc
    simp only [Option.some.injEq, Prod.mk.injEq] at hs
    obtain ⟨rfl, rfl⟩ := hs
    obtain ⟨_, d, hu, _, hfit⟩ := E.ok t ty hT
    rw [hd] at hfit
    obtain rfl : d = .string := hfit
    cases hx
    cases hm
    refine Gives.same R (c := .string (s.extract l.toNat u.toNat)) ?_ (.lit _)
    have hl' := xint_some hl hxl
    have hu' := xint_some hh hxu
    rcases hl' with ⟨rfl, rfl⟩ | ⟨kl, rfl⟩ <;> rcases hu' with ⟨rfl, rfl⟩ | ⟨ku, rfl⟩
    · simp [Instr.sliceAt, Instr.slice, Instr.sliceBounds, run_underlying hu]
    · have hb1 := sliceBound_ok (E := E) (w := w) (k := ku) (i := u) (y := s.size) (code := .sliceAlen) (by omega) (by omega)
      simp [Instr.sliceAt, Instr.slice, Instr.sliceBounds, run_underlying hu, hb1]
    · have hb2 := sliceBound_ok (E := E) (w := w) (k := kl) (i := l) (y := s.size) (code := .sliceB) (by omega) (by omega)
      simp [Instr.sliceAt, Instr.slice, Instr.sliceBounds, run_underlying hu, hb2]
    · have hb1 := sliceBound_ok (E := E) (w := w) (k := ku) (i := u) (y := s.size) (code := .sliceAlen) (by omega) (by omega)
      have hb2 := sliceBound_ok (E := E) (w := w) (k := kl) (i := l) (y := u.toNat) (code := .sliceB) (by omega) (by omega)
      simp [Instr.sliceAt, Instr.slice, Instr.sliceBounds, run_underlying hu, hb1, hb2]
  case h_2 =>
    rename_i ty id sz xs hT
    split at hs
    case h_2 => cases hs
    rename_i e l u m hd hxl hxu hxm
    split at hs
    case isFalse => cases hs
    rename_i hc
    obtain ⟨h0, h1, h2, h3, hsz, hmh⟩ := hc
    obtain ⟨_, d, hu, _, hfit⟩ := E.ok t ty hT
    rw [hd] at hfit
    obtain rfl : d = .slice e := hfit
    obtain ⟨ety, hTe, hez⟩ : ∃ ety, E.T e = some ety ∧ (id ≠ 0 → ety.size = sz) := by
      unfold nilOr at hsz
      cases hq : E.T e with
      | none => rw [hq] at hsz; cases hsz
      | some ety =>
        rw [hq] at hsz
        refine ⟨ety, rfl, fun h0 => ?_⟩
        simpa [h0] using hsz
    obtain ⟨⟨i, z, hi, hsi, _⟩, _⟩ := E.ok e ety hTe
    have hl' := xint_some hl hxl
    have hu' := xint_some hh hxu
    have hm' := xint_some hm hxm
    -- what the cut comes to
    have key : ∀ (a : Option Addr) (c : Nat), xs.length ≤ c → (Instr.sliceAt t (.slice a xs.length c) clo chi cmx).run E.P w =
        .ok (.slice (if (if cmx = none then c else m.toNat) = l.toNat then a else a.map (·.add (l.toNat * ety.size))) (u.toNat - l.toNat) ((if cmx = none then c else m.toNat) - l.toNat)) w := by
      intro a c hc
      rcases hl' with ⟨rfl, rfl⟩ | ⟨kl, rfl⟩ <;> rcases hu' with ⟨rfl, rfl⟩ | ⟨ku, rfl⟩ <;> rcases hm' with ⟨rfl, rfl⟩ | ⟨km, rfl⟩
      all_goals first
        | (cases hm; cases hh; simp at hmh; done)
        | skip
      · simp [Instr.sliceAt, Instr.slice, Instr.sliceBounds, run_underlying hu, sizeOf, typeInfo, hi, hsi]
      · have hb1 := sliceBound_ok (E := E) (w := w) (k := ku) (i := u) (y := c) (code := .sliceAcap) (by omega) (by omega)
        simp [Instr.sliceAt, Instr.slice, Instr.sliceBounds, run_underlying hu, sizeOf, typeInfo, hi, hsi, hb1]
      · have hb1 := sliceBound_ok (E := E) (w := w) (k := ku) (i := u) (y := m.toNat) (code := .slice3B) (by omega) (by omega)
        have hb3 := sliceBound_ok (E := E) (w := w) (k := km) (i := m) (y := c) (code := .slice3Acap) (by omega) (by omega)
        simp [Instr.sliceAt, Instr.slice, Instr.sliceBounds, run_underlying hu, sizeOf, typeInfo, hi, hsi, hb1, hb3]
      · have hb2 := sliceBound_ok (E := E) (w := w) (k := kl) (i := l) (y := xs.length) (code := .sliceB) (by omega) (by omega)
        simp [Instr.sliceAt, Instr.slice, Instr.sliceBounds, run_underlying hu, sizeOf, typeInfo, hi, hsi, hb2]
      · have hb1 := sliceBound_ok (E := E) (w := w) (k := ku) (i := u) (y := c) (code := .sliceAcap) (by omega) (by omega)
        have hb2 := sliceBound_ok (E := E) (w := w) (k := kl) (i := l) (y := u.toNat) (code := .sliceB) (by omega) (by omega)
        simp [Instr.sliceAt, Instr.slice, Instr.sliceBounds, run_underlying hu, sizeOf, typeInfo, hi, hsi, hb1, hb2]
      · have hb1 := sliceBound_ok (E := E) (w := w) (k := ku) (i := u) (y := m.toNat) (code := .slice3B) (by omega) (by omega)
        have hb3 := sliceBound_ok (E := E) (w := w) (k := km) (i := m) (y := c) (code := .slice3Acap) (by omega) (by omega)
        have hb2 := sliceBound_ok (E := E) (w := w) (k := kl) (i := l) (y := u.toNat) (code := .slice3C) (by omega) (by omega)
        simp [Instr.sliceAt, Instr.slice, Instr.sliceBounds, run_underlying hu, sizeOf, typeInfo, hi, hsi, hb1, hb2, hb3]
    split at hs
    · -- nil
      rename_i hid
      subst hid
      simp only [Option.some.injEq, Prod.mk.injEq] at hs
      obtain ⟨rfl, rfl⟩ := hs
      cases hx with
      | slc _ _ _ _ _ hp _ => exact absurd hp.1 (Nat.lt_irrefl 0)
      | nil =>
        have hk := key none 0 (Nat.le_refl _)
        simp only [List.length_nil] at h3
        have e1 : m.toNat = 0 := by omega
        have e2 : u.toNat = 0 := by omega
        have e3 : l.toNat = 0 := by omega
        rw [e1, e2, e3] at hk
        refine Gives.same R (c := .slice none 0 0) ?_ (.nil sz)
        simpa using hk
    · rename_i hid
      have hez := hez hid
      rw [hez] at key
      cases hx with
      | nil => exact absurd rfl hid
      | slc hv hsz1 hone hcap hr hid' hrow =>
        rename_i b o c css
        split at hs
        · -- from the begin: the same row
          rename_i hnn
          simp only [Option.some.injEq, Prod.mk.injEq] at hs
          obtain ⟨rfl, rfl⟩ := hs
          have hk := key (some ⟨b, o, none⟩) c hcap
          have hlo : lo = none := by simpa using hnn.1
          have hmx : mx = none := by simpa using hnn.2
          subst hlo; subst hmx
          cases hl; cases hm
          simp only [xint, Option.some.injEq] at hxl hxm
          have e3 : l.toNat = 0 := by omega
          rw [e3] at hk
          have hlen : (xs.take u.toNat).length = u.toNat := by rw [List.length_take]; omega
          refine Gives.same R (c := .slice (some ⟨b, o, none⟩) u.toNat c) ?_ ?_
          · by_cases hc0 : c = 0
            · subst hc0; simpa using hk
            · simpa [hc0, Addr.add] using hk
          · have := VRel.slc (κ := κ) (hv.take u.toNat) (fun x hx => hsz1 x (List.mem_of_mem_take hx)) (fun x hx => hone x (List.mem_of_mem_take hx)) (Nat.le_trans (List.length_take_le _ _) (Nat.le_trans (by omega) hcap))
              (show rtAt κ b o (css.take u.toNat).flatten from by
                obtain ⟨l1, q1, q2⟩ := hr
                refine ⟨l1, q1, List.IsPrefix.trans ?_ q2⟩
                rw [← List.take_append_drop u.toNat css, List.flatten_append]
                simp) hid' hrow
            rw [hlen] at this
            exact this
        · -- a slice of its own
          simp only [Option.some.injEq, Prod.mk.injEq] at hs
          obtain ⟨rfl, rfl⟩ := hs
          have hk := key (some ⟨b, o, none⟩) c hcap
          have hlen : ((xs.take u.toNat).drop l.toNat).length = u.toNat - l.toNat := by rw [List.length_drop, List.length_take]; omega
          have hcl := hv.length
          have hcs := hv.sizes hsz1
          generalize hcc : (if cmx = none then c else m.toNat) = cc at hk
          have hccl : u.toNat ≤ cc := by
            rw [← hcc]
            split
            · omega
            · omega
          have hrt : ∀ o', (o' = o + l.toNat * sz ∨ u.toNat - l.toNat = 0 ∧ o' = o) → rtAt κ b o' ((css.take u.toNat).drop l.toNat).flatten := by
            rintro o' (rfl | ⟨h5, rfl⟩)
            · obtain ⟨l1, q1, q2⟩ := hr
              refine ⟨l1, q1, ?_⟩
              rw [← List.drop_drop]
              have e1 : css.flatten = (css.take l.toNat).flatten ++ (((css.take u.toNat).drop l.toNat).flatten ++ (css.drop u.toNat).flatten) := by
                rw [← List.flatten_append, ← List.flatten_append]
                congr 1
                rw [← List.append_assoc]
                have : css.take l.toNat ++ (css.take u.toNat).drop l.toNat = css.take u.toNat := by
                  rw [show css.take l.toNat = (css.take u.toNat).take l.toNat by rw [List.take_take]; congr 1; omega]
                  exact List.take_append_drop _ _
                rw [this, List.take_append_drop]
              have e2 : (css.take l.toNat).flatten.length = l.toNat * sz := by
                rw [flatten_len (sz := sz) (fun r hr => hcs r (List.mem_of_mem_take hr)), List.length_take]
                congr 1
                omega
              have q3 := prefix_drop q2 (l.toNat * sz)
              rw [e1, ← e2, List.drop_left] at q3
              rw [← e2]
              exact (List.prefix_append _ _).trans q3
            · obtain ⟨l1, q1, q2⟩ := hr
              refine ⟨l1, q1, ?_⟩
              have : (css.take u.toNat).drop l.toNat = [] := by
                apply List.eq_nil_of_length_eq_zero
                rw [List.length_drop, List.length_take]; omega
              rw [this]
              exact List.nil_prefix
          have hv2 : ∀ r, VRowss (κ.bump r) ((xs.take u.toNat).drop l.toNat) ((css.take u.toNat).drop l.toNat) := by
            intro r
            have h1 : VRowss κ (xs.take u.toNat) (css.take u.toNat) := hv.take _
            have h2 : ∀ {vs : List (List V)} {cs : List (List Value)} (n : Nat), VRowss κ vs cs → VRowss κ (vs.drop n) (cs.drop n) := by
              intro vs
              induction vs with
              | nil => intro cs n h; cases h; simpa using VRowss.nil
              | cons a vs ih =>
                intro cs n h
                cases h with
                | cons h ht =>
                  cases n with
                  | zero => exact .cons h ht
                  | succ n => exact ih n ht
            exact (h2 _ h1).mono (R.bump_le r)
          have mkv : ∀ o', rtAt κ b o' ((css.take u.toNat).drop l.toNat).flatten → VRel (κ.bump ⟨b, o', cc - l.toNat, e, sz⟩) (.slc h.next sz ((xs.take u.toNat).drop l.toNat)) (.slice (some ⟨b, o', none⟩) (u.toNat - l.toNat) (cc - l.toNat)) := by
            intro o' hr'
            have := VRel.slc (κ := κ.bump ⟨b, o', cc - l.toNat, e, sz⟩) (id := h.next) (b := b) (o := o') (c := cc - l.toNat) (hv2 _) (fun x hx => hsz1 x (List.mem_of_mem_take (List.mem_of_mem_drop hx))) (fun x hx => hone x (List.mem_of_mem_take (List.mem_of_mem_drop hx)))
              (by rw [hlen]; omega) hr' ⟨R.pos, by show h.next < κ.next + 1; rw [R.next]; omega⟩ ⟨_, by show (if h.next = κ.next then _ else _) = _; rw [if_pos R.next.symm], rfl, rfl, rfl, rfl⟩
            rw [hlen] at this
            exact this
          by_cases hml : cc = l.toNat
          · rw [if_pos hml] at hk
            exact ⟨_, w, _, hk, R.bump_le _, mkv o (hrt o (.inr ⟨by omega, rfl⟩)), R.bump _⟩
          · rw [if_neg hml] at hk
            refine ⟨_, w, _, hk, R.bump_le ⟨b, o + l.toNat * sz, cc - l.toNat, e, sz⟩, ?_, R.bump _⟩
            simp only [Option.map_some, Addr.add_mid]
            exact mkv _ (hrt _ (.inl rfl))
  case h_3 =>
    rename_i ty id off n sz hT
    split at hs
    case h_2 => cases hs
    rename_i e l u a hd hxl hxu ha
    split at hs
    case isFalse => cases hs
    rename_i hc
    obtain ⟨h0, h1, h2, h3, hsz⟩ := hc
    obtain ⟨_, d, hu, _, hfit⟩ := E.ok t ty hT
    rw [hd] at hfit
    obtain rfl : d = .slice e := hfit
    obtain ⟨ety, hTe, hez⟩ : ∃ ety, E.T e = some ety ∧ ety.size = sz := by
      cases hq : E.T e with
      | none => rw [hq] at hsz; cases hsz
      | some ety => rw [hq] at hsz; exact ⟨ety, rfl, Option.some.inj hsz⟩
    obtain ⟨⟨i, z, hi, hsi, _⟩, _⟩ := E.ok e ety hTe
    cases hx with
    | msl hk hks hcap hn =>
      rename_i c k
      split at hs
      · -- no bound on the room
        cases hm
        have hr := slice_key (E := E) (κ := κ) (w := w) (n := n) (m := n) (sz := sz) hu hi (by rw [hsi, hez]) hl hh ORelV.none hxl hxu rfl h0 h1 h2 (Int.le_refl _) (by simp) (some ⟨k.b, k.o + off * sz, none⟩) c hn
        simp only [if_true] at hr
        split at hs
        · rename_i hcond
          simp only [Option.some.injEq, Prod.mk.injEq] at hs
          obtain ⟨rfl, rfl⟩ := hs
          refine ⟨_, w, κ, hr, .refl κ, ?_, R⟩
          have hv := VRel.msl (κ := κ) (off := off + l.toNat) (n := u.toNat - l.toNat) (c := c - l.toNat) hk hks (by omega) (by omega)
          have e1 : k.o + (off + l.toNat) * sz = k.o + off * sz + l.toNat * sz := by rw [Nat.add_mul]; omega
          rw [e1] at hv
          by_cases hcl : c = l.toNat
          · rw [if_pos hcl]
            have hl0 : l.toNat = 0 := by
              rcases hcond with hq | hq
              · cases lo with
                | none => simp only [xint, Option.some.injEq] at hxl; omega
                | some _ => cases hq
              · omega
            rw [hl0] at hv ⊢
            simpa using hv
          · rw [if_neg hcl]
            simpa only [Option.map_some, Addr.add_mid] using hv
        · rename_i hcond
          simp only [Option.some.injEq, Prod.mk.injEq] at hs
          obtain ⟨rfl, rfl⟩ := hs
          have hln : ¬ l < n := fun hq => hcond (.inr hq)
          have hA := (R.arr id a ha)
          have hlc : l.toNat ≤ c := by omega
          have hu0 : u.toNat - l.toNat = 0 := by omega
          rw [hu0] at hr
          by_cases hcl : c = l.toNat
          · obtain ⟨q1, q2, q3⟩ := alias_ok R (m := 0) (cap := 0) (o' := k.o + off * sz) (off := off) ha hk hks (Nat.le_refl _) (by omega) (by omega) (.inl rfl)
            rw [if_pos hcl] at hr
            have e0 : c - l.toNat = 0 := by omega
            rw [e0] at hr
            refine ⟨_, w, _, hr, q1, ?_, by simpa using q2⟩
            have := VRel.msl (off := 0) (n := 0) (c := 0) (sz := sz) q3 rfl rfl (Nat.le_refl _)
            simpa using this
          · obtain ⟨q1, q2, q3⟩ := alias_ok R (m := 0) (cap := c - l.toNat) (o' := k.o + (off + l.toNat) * sz) (off := off + l.toNat) ha hk hks (Nat.zero_le _) (by omega) (by omega) (.inl rfl)
            rw [if_neg hcl] at hr
            refine ⟨_, w, _, hr, q1, ?_, by simpa using q2⟩
            have := VRel.msl (off := 0) (n := 0) (c := c - l.toNat) (sz := sz) q3 rfl (by simp) (Nat.zero_le _)
            have e1 : k.o + (off + l.toNat) * sz = k.o + off * sz + l.toNat * sz := by rw [Nat.add_mul]; omega
            simpa only [Option.map_some, Addr.add_mid, e1, Nat.zero_mul, Nat.add_zero] using this
      · rename_i mv
        split at hs
        case h_2 => cases hs
        rename_i m hxm
        split at hs
        case isFalse => cases hs
        rename_i hcond
        obtain ⟨hlo, hhi, hum, hmn⟩ := hcond
        simp only [Option.some.injEq, Prod.mk.injEq] at hs
        obtain ⟨rfl, rfl⟩ := hs
        have hr := slice_key (E := E) (κ := κ) (w := w) (n := n) (sz := sz) hu hi (by rw [hsi, hez]) hl hh hm hxl hxu hxm h0 h1 hum hmn (fun _ => hhi) (some ⟨k.b, k.o + off * sz, none⟩) c hn
        have hlo' : lo = none := by simpa using hlo
        subst hlo'
        simp only [xint, Option.some.injEq] at hxl
        have hl0 : l.toNat = 0 := by omega
        have hcm : cmx ≠ none := by cases hm; simp
        rw [if_neg hcm, hl0, Nat.sub_zero, Nat.sub_zero] at hr
        obtain ⟨q1, q2, q3⟩ := alias_ok R (m := m.toNat) (cap := m.toNat) (o' := k.o + off * sz) (off := off) ha hk hks (Nat.le_refl _) (by omega) (by omega) (.inl rfl)
        refine ⟨_, w, _, hr, q1, ?_, q2⟩
        have := VRel.msl (off := 0) (n := u.toNat) (c := m.toNat) (sz := sz) q3 rfl (by simp) (by omega)
        by_cases hm0 : m.toNat = 0
        · rw [if_pos hm0]
          simpa using this
        · rw [if_neg hm0]
          simpa [Addr.add_mid] using this
end
end Go.Proofs.YtjofmihdeblbmaaGreatDoor.Xa

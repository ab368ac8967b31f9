/- XA, joined: XaF2. -/
import Derived.Test.YtjofmihdeblbmaaGreatDoorXaM06
import Derived.Laws.MakeOwn
/- XA, part F2: append over arrays that may be written; make. -/
namespace Go.Proofs.YtjofmihdeblbmaaGreatDoor.Xa
open Go Go.RowKit
set_option linter.unusedVariables false
set_option linter.unusedSimpArgs false

/-- the elements of a slice that is not nil -/
def rowsIn (x : V) (h : H) : Option (List (List V)) :=
  match x with
  | .slc id _ ys => if id = 0 then none else some ys
  | .msl id off n _ => match h.arr id with
    | some a => if off + n ≤ a.rows.length then some ((a.rows.drop off).take n) else none
    | none => none
  | _ => none
/-- is the append one over an array that may be written -/
def isM (E : Env) (t : TypeId) (s : V) : Bool := match s with
  | .msl .. => true
  | _ => E.mtb t
def xappendM (E : Env) (t : TypeId) (s x : V) (h : H) : Option (V × H) :=
  match E.T t, rowsIn x h with
  | some ty, some ys => match ty.desc with
    | .slc e => match E.T e with
      | some ety => if 0 < ety.size ∧ (ys.map (·.length)).all (· == ety.size) = true ∧ ys.length ≠ 0 then match s with
          | .slc 0 _ [] => if ys.length * ety.bytes ≤ 140737488355328 ∧ ys.length ≤ maxLen then some (.msl h.next 0 ys.length ety.size, h.newArr ⟨ys, ety.size, e⟩) else none
          | .msl id off n sz => match h.arr id with
            | some a => if a.e = e ∧ sz = ety.size ∧ off + n ≤ a.rows.length ∧ (n + ys.length) * ety.bytes ≤ 140737488355328 ∧ n + ys.length ≤ maxLen then
                some (.msl h.next 0 (n + ys.length) ety.size, h.moveArr id ⟨(a.rows.drop off).take n ++ ys, ety.size, e⟩) else none
            | none => none
          | _ => none
        else none
      | none => none
    | _ => none
  | _, _ => none
def xmakeSlice (E : Env) (t : TypeId) (l c : V) (h : H) : Option (V × H) :=
  match E.T t, l, c with
  | some ty, .lit (.int _ n), .lit (.int _ m) => match ty.desc with
    | .slc e => match E.T e with
      | some ety => if n = m ∧ 0 ≤ n ∧ 0 < ety.size ∧ (ety.bytes : Int) * n ≤ 281474976710656 ∧ n.toNat ≤ maxLen then some (.msl h.next 0 n.toNat ety.size, h.newArr ⟨List.replicate n.toNat ety.zero, ety.size, e⟩) else none
      | none => none
    | _ => none
  | _, _, _ => none

section
variable {E : Env} {κ : Kp} {h : H} {w : World}
theorem VRowss.drop {vs : List (List V)} {cs : List (List Value)} (h : VRowss κ vs cs) (n : Nat) : VRowss κ (vs.drop n) (cs.drop n) := by
  induction vs generalizing cs n with
  | nil => cases h; simpa using VRowss.nil
  | cons a vs ih =>
    cases h with
    | cons h ht =>
      cases n with
      | zero => exact .cons h ht
      | succ n => exact ih ht n
theorem flat_drop {α : Type} {sz : Nat} {css : List (List α)} (hl : ∀ r ∈ css, r.length = sz) (n : Nat) : css.flatten.drop (n * sz) = (css.drop n).flatten := by
  induction css generalizing n with
  | nil => simp
  | cons r css ih =>
    cases n with
    | zero => simp
    | succ n =>
      have hr : r.length = sz := hl r (by simp)
      rw [List.flatten_cons, List.drop_succ_cons, ← ih (fun x hx => hl x (List.mem_cons_of_mem _ hx)), Nat.succ_mul, Nat.add_comm, ← List.drop_drop, ← hr, List.drop_left]
theorem flat_take_prefix {α : Type} (css : List (List α)) (n : Nat) : (css.take n).flatten <+: css.flatten := by
  conv => rhs; rw [← List.take_append_drop n css, List.flatten_append]
  exact List.prefix_append _ _
theorem prefix_get {α : Type} {a b : List α} (h : a <+: b) {j : Nat} {v : α} (hv : a[j]? = some v) : b[j]? = some v := by
  obtain ⟨t, rfl⟩ := h
  rw [List.getElem?_append_left (List.getElem?_eq_some_iff.1 hv).1]; exact hv
/-- an array's rows from some element on, in memory -/
theorem ARel.cells {P : Program} {a : Arr} {k : Blk} (hA : ARel P κ a k w) (off n : Nat) : ∃ css, VRowss κ ((a.rows.drop off).take n) css ∧ (∀ r ∈ css, r.length = a.sz) ∧ ∀ j v, css.flatten[j]? = some v → w.cell? ⟨k.b, k.o + off * a.sz + j, none⟩ = some v := by
  obtain ⟨ccs, css, h1, h2, h3, h4⟩ := hA.held
  have hcs := h2.sizes hA.len
  refine ⟨(css.drop off).take n, (h2.drop off).take n, fun r hr => hcs r (List.mem_of_mem_drop (List.mem_of_mem_take hr)), fun j v hv => ?_⟩
  have p1 := prefix_get (flat_take_prefix (css.drop off) n) hv
  rw [← flat_drop hcs off, List.getElem?_drop] at p1
  have p2 := prefix_get h3 p1
  rw [List.getElem?_drop] at p2
  simp only [World.cell?, h1]
  rw [show k.o + off * a.sz + j = k.o + (off * a.sz + j) by omega, ← Array.getElem?_toList]
  exact p2
theorem rowsIn_ok (R : Rel E.P κ h w) {x : V} {cx : Value} {ys : List (List V)} (hx : VRel κ x cx) (hr : rowsIn x h = some ys) : ∃ a c css, cx = .slice (some a) ys.length c ∧ VRowss κ ys css ∧ (∀ y ∈ ys, ∀ v ∈ y, v.one = true) ∧ ∀ j v, css.flatten[j]? = some v → w.cell? (a.add j) = some v := by
  cases x with
  | slc id sz xs =>
    simp only [rowsIn] at hr
    split at hr
    · cases hr
    rename_i hid
    obtain rfl := Option.some.inj hr
    cases hx with
    | nil => exact absurd rfl hid
    | slc hv hsz hone hc hr hid' hrow => exact ⟨_, _, _, rfl, hv, hone, rt_cells R hr⟩
  | msl id off n sz =>
    simp only [rowsIn] at hr
    split at hr
    case h_2 => cases hr
    rename_i a ha
    split at hr
    case isFalse => cases hr
    rename_i hle
    obtain rfl := Option.some.inj hr
    cases hx with
    | msl hk hs hc hn =>
      rename_i c k
      obtain ⟨k', hk', hA⟩ := R.arr id a ha
      rw [hk] at hk'
      obtain rfl := Option.some.inj hk'
      obtain ⟨css, h1, h2, h3⟩ := hA.cells off n
      have hl : ((a.rows.drop off).take n).length = n := by simp; omega
      refine ⟨⟨k.b, k.o + off * sz, none⟩, c, css, by rw [hl], h1, fun y hy => hA.ones y (List.mem_of_mem_drop (List.mem_of_mem_take hy)), fun j v hv => ?_⟩
      rw [Addr.add_mid, ← hs, hA.sz]
      exact h3 j v hv
  | _ => simp [rowsIn] at hr
theorem xmakeSlice_ok (R : Rel E.P κ h w) {t : TypeId} {l c v : V} {cl cc : Value} {h' : H} (hl : VRel κ l cl) (hc : VRel κ c cc) (hx : xmakeSlice E t l c h = some (v, h')) : Gives E κ w (Instr.makeSlice t cl cc) v h' := by
  unfold xmakeSlice at hx
  split at hx
  case h_2 => cases hx
  rename_i ty kl n kc m hT
  split at hx
  case h_2 => cases hx
  rename_i e hd
  split at hx
  case h_2 => cases hx
  rename_i ety hTe
  split at hx
  case isFalse => cases hx
  rename_i hcond
  obtain ⟨rfl, h0, hpos, hb, hm⟩ := hcond
  simp only [Option.some.injEq, Prod.mk.injEq] at hx
  obtain ⟨rfl, rfl⟩ := hx
  obtain ⟨_, d, hu, _, hfit⟩ := E.ok t ty hT
  rw [hd] at hfit
  obtain rfl : d = .slice e := hfit
  obtain ⟨⟨i, z, hi, hs, hby, hz, hzc, hzs, hz1⟩, _⟩ := E.ok e ety hTe
  cases hl
  cases hc
  have hm' : n ≤ 9223372036854775807 := by unfold maxLen at hm; omega
  have hr := run_make (P := E.P) w t e i z hu hi hz kl kc n n h0 (Int.le_refl _) (by rw [hby]; exact hb) hm'
  have hv : VRels κ (List.replicate n.toNat ety.zero).flatten (madeCells z.cells (n.toNat * i.size)).toList := by
    unfold madeCells
    rw [← hzs]
    exact zero_rows (κ := κ) (conc_rels (κ := κ) hzc) n.toNat (by rw [hzs, hs]; exact hpos)
  obtain ⟨css, c1, c2⟩ := rows_of_flat hv
  have hzl : ety.zero.length = ety.size := by
    have := congrArg List.length hzc
    simp at this
    omega
  obtain ⟨q1, q2, q3⟩ := newArr_ok R hTe (cap := n.toNat) hpos c2 (fun r hr => by rw [List.eq_of_mem_replicate hr]; exact hzl) (fun r hr => by rw [List.eq_of_mem_replicate hr]; exact hz1) (by rw [c1]; exact List.prefix_refl _) (by simp [madeCells, hs]) hm (by simp)
  rw [List.length_replicate] at q2
  exact ⟨_, _, _, hr, q1, q2, q3⟩
theorem xappendM_ok (R : Rel E.P κ h w) {t ty : TypeId} {s x v : V} {cs cx : Value} {h' : H} (hs : VRel κ s cs) (hx : VRel κ x cx) (hxa : xappendM E t s x h = some (v, h')) :
    Gives E κ w (Builtin.append_ #[t, t] ty #[cs, cx]) v h' := by
  unfold xappendM at hxa
  split at hxa
  case h_2 => cases hxa
  rename_i tyv ys hT hys
  split at hxa
  case h_2 => cases hxa
  rename_i e hd
  split at hxa
  case h_2 => cases hxa
  rename_i ety hTe
  split at hxa
  case isFalse => cases hxa
  rename_i hc
  obtain ⟨hz0, hall, hne⟩ := hc
  have hys2 : ∀ r ∈ ys, r.length = ety.size := fun r hr => by
    have := List.all_eq_true.1 hall r.length (List.mem_map_of_mem hr)
    simpa using this
  obtain ⟨_, d, hu, _, hfit⟩ := E.ok t tyv hT
  rw [hd] at hfit
  obtain rfl : d = .slice e := hfit
  obtain ⟨⟨i, z, hi, hsi, hby, hz, hzc, hzs, hz1⟩, _⟩ := E.ok e ety hTe
  obtain ⟨a2, c2, css2, rfl, hv2, hone2, hnews⟩ := rowsIn_ok R hx hys
  have hnl : css2.flatten.length = ys.length * i.size := by rw [← hv2.flat.length, flatten_len hys2, hsi]
  have hn1 : ∀ u ∈ css2.flatten, u.oneCell' = true := fun u hu => by
    rw [← one_eq]
    refine hv2.flat.ones (fun v hv => ?_) u hu
    obtain ⟨x, hx, hv⟩ := List.mem_flatten.1 hv
    exact hone2 x hx v hv
  split at hxa
  · -- nil
    split at hxa
    case isFalse => cases hxa
    rename_i hby2
    obtain ⟨hby2, hml⟩ := hby2
    simp only [Option.some.injEq, Prod.mk.injEq] at hxa
    obtain ⟨rfl, rfl⟩ := hxa
    cases hs with
    | slc _ _ _ _ _ hp _ => exact absurd hp.1 (Nat.lt_irrefl 0)
    | nil =>
      have hr := run_append_nil (P := E.P) w t ty e i z hu hi hz a2 ys.length c2 css2.flatten hnl hnews (by omega) (by unfold maxLen at hml; omega) (by rw [hby]; omega)
      have hcs : (css2.flatten.toArray ++ Builtin.zeroCells z.cells (grownCap w ys.length 0 e - ys.length)).size = grownCap w ys.length 0 e * ety.size := by
        have hge := grownCap_ge w ys.length 0 e
        simp only [Array.size_append, List.size_toArray, size_zeroCells, hzs, hnl, ← Nat.add_mul, hsi]
        congr 1
        omega
      obtain ⟨h1, h2, h3⟩ := newArr_ok (R.under (below_drew w)) hTe hz0 hv2 hys2 hone2 (co := css2.flatten.toArray ++ Builtin.zeroCells z.cells (grownCap w ys.length 0 e - ys.length)) (cap := grownCap w ys.length 0 e)
        (by simp) (Nat.le_of_eq hcs.symm) (grownCap_le_maxLen w _ 0 e hml) (grownCap_ge w _ 0 e)
      exact ⟨_, _, _, hr, h1, h2, h3⟩
  · rename_i id off n sz
    split at hxa
    case h_2 => cases hxa
    rename_i a ha
    split at hxa
    case isFalse => cases hxa
    rename_i hcond
    obtain ⟨hae, rfl, hle, hby2, hml⟩ := hcond
    simp only [Option.some.injEq, Prod.mk.injEq] at hxa
    obtain ⟨rfl, rfl⟩ := hxa
    cases hs with
    | msl hk hks hcap hn =>
      rename_i c k
      obtain ⟨k', hk', hA⟩ := R.arr id a ha
      rw [hk] at hk'
      obtain rfl := Option.some.inj hk'
      have hasz : a.sz = ety.size := by rw [← hA.sz, hks]
      obtain ⟨css1, g1, g2, g3⟩ := hA.cells off n
      have hl1 : ((a.rows.drop off).take n).length = n := by simp; omega
      have hcl : css1.length = n := by rw [← g1.length, hl1]
      have hfl : css1.flatten.length = n * i.size := by rw [flatten_len g2, hcl, hasz, hsi]
      have holds : ∀ j v, css1.flatten[j]? = some v → w.cell? ((⟨k.b, k.o + off * ety.size, none⟩ : Addr).add j) = some v := fun j v hv => by
        rw [Addr.add_mid, ← hasz]
        exact g3 j v hv
      have hrows := g1.append hv2
      have hsz3 : ∀ r ∈ (a.rows.drop off).take n ++ ys, r.length = ety.size := fun r hr => by
        rcases List.mem_append.1 hr with hr | hr
        · rw [← hasz]; exact hA.len r (List.mem_of_mem_drop (List.mem_of_mem_take hr))
        · exact hys2 r hr
      have hone3 : ∀ x ∈ (a.rows.drop off).take n ++ ys, ∀ v ∈ x, v.one = true := fun x hx => by
        rcases List.mem_append.1 hx with hx | hx
        · exact hA.ones x (List.mem_of_mem_drop (List.mem_of_mem_take hx))
        · exact hone2 x hx
      by_cases hroom : n + ys.length ≤ c
      · -- in place
        obtain ⟨cells, css, h1, h2, ⟨tl, h3⟩, h4⟩ := hA.held
        have hcs := h2.sizes hA.len
        have hko : k.o ≤ cells.size := by omega
        have hmul : k.o + (off * ety.size + (n * ety.size + ys.length * ety.size)) ≤ cells.size := by
          have e1 : off * ety.size + (n * ety.size + ys.length * ety.size) = (off + (n + ys.length)) * ety.size := by rw [Nat.add_mul, Nat.add_mul]
          have e2 : (off + (n + ys.length)) * ety.size ≤ k.cap * ety.size := Nat.mul_le_mul_right _ (by omega)
          rw [hks] at h4
          omega
        have hst := run_storeCells_at E.P k.b (k.o + off * ety.size + n * i.size) a.e css2.flatten 0 cells w h1 (by rw [hnl, hsi]; omega) hn1
        have hf := run_firstCells_some (P := E.P) w i.size ys.length a2 ys.length c2 css2.flatten hnl hnews
        simp only [Nat.add_zero] at hst
        have hr : (Builtin.append_ #[t, t] ty #[.slice (some ⟨k.b, k.o + off * ety.size, none⟩) n c, .slice (some a2) ys.length c2]).run E.P w =
            .ok (.slice (some ⟨k.b, k.o + off * ety.size, none⟩) (n + ys.length) c) (w.setRow k.b (cells.toList.take (k.o + off * ety.size + n * i.size) ++ css2.flatten ++ cells.toList.drop (k.o + off * ety.size + n * i.size + css2.flatten.length)).toArray) := by
          simp [Builtin.append_, run_underlying hu, sizeOf, typeInfo, hi, Builtin.lenOf, hroom, hf, Addr.add_lit, hst]
        have hle' := R.withArr_le ⟨k.b, k.o + off * ety.size, c, ety.size⟩
        have hpre : css1.flatten ++ css2.flatten <+: (cells.toList.take (k.o + off * ety.size + n * i.size) ++ css2.flatten ++ cells.toList.drop (k.o + off * ety.size + n * i.size + css2.flatten.length)).drop (k.o + off * ety.size) := by
          have hlen0 : k.o + off * ety.size + n * i.size ≤ cells.toList.length := by rw [hsi, Array.length_toList]; omega
          have t1 : (cells.toList.take (k.o + off * ety.size + n * i.size)).drop (k.o + off * ety.size) = css1.flatten := by
            rw [List.drop_take, Nat.add_sub_cancel_left]
            refine List.ext_getElem? fun j => ?_
            by_cases hj : j < n * i.size
            · rw [List.getElem?_take_of_lt hj, List.getElem?_drop]
              have hj2 : j < css1.flatten.length := by omega
              have q := holds j _ (List.getElem?_eq_getElem hj2)
              rw [List.getElem?_eq_getElem hj2, Addr.add_mid] at *
              simp only [World.cell?, h1] at q
              rw [Array.getElem?_toList]
              exact q
            · rw [List.getElem?_eq_none (by simp; omega), List.getElem?_eq_none (by omega)]
          rw [List.append_assoc, List.drop_append_of_le_length (by rw [List.length_take]; omega), t1, ← List.append_assoc]
          exact List.prefix_append _ _
        have hM := R.moveArr (a := ⟨(a.rows.drop off).take n ++ ys, ety.size, e⟩) (k' := ⟨k.b, k.o + off * ety.size, c, ety.size⟩) ha hk rfl
          (w' := w.setRow k.b (cells.toList.take (k.o + off * ety.size + n * i.size) ++ css2.flatten ++ cells.toList.drop (k.o + off * ety.size + n * i.size + css2.flatten.length)).toArray)
          ⟨rfl, hz0, ⟨_, css1 ++ css2, by rw [← hae]; exact setRow_heap w k.b cells _ a.e _ h1, hrows.mono hle', by rw [List.flatten_append]; exact hpre, by
              simp only [List.size_toArray, List.length_append, List.length_take, List.length_drop, Array.length_toList, hnl, hsi]
              have e2 : (off + c) * ety.size = k.cap * ety.size := by rw [hcap]
              rw [Nat.add_mul] at e2
              rw [hks] at h4
              omega⟩, hsz3, hone3, by rw [List.length_append, hl1]; exact hroom, by have := hA.most; show c ≤ maxLen; omega, by rw [← hae, ← hasz]; exact hA.typ⟩
          (fun j hj => setRow_other w k.b j _ hj) (setRow_size _ _ _) (setRow_below _ _ _ (R.arrb id k hk).1)
        refine ⟨_, _, _, hr, hle', ?_, hM⟩
        have := VRel.msl (κ := κ.withArr ⟨k.b, k.o + off * ety.size, c, ety.size⟩) (off := 0) (n := n + ys.length) (c := c) (sz := ety.size) (R.withArr_at ⟨k.b, k.o + off * ety.size, c, ety.size⟩) rfl (by simp) hroom
        simpa using this
      · -- elsewhere
        have hr := run_append_grow (P := E.P) w t ty e i z hu hi hz ⟨k.b, k.o + off * ety.size, none⟩ n c css1.flatten hfl holds a2 ys.length c2 css2.flatten hnl hnews (by omega) (by unfold maxLen at hml; omega) (growslice_fits (by omega) (by rw [hby]; exact hby2))
        have hge := grownCap_ge w (n + ys.length) c e
        have hcs : (css1.flatten.toArray ++ css2.flatten.toArray ++ Builtin.zeroCells z.cells (grownCap w (n + ys.length) c e - (n + ys.length))).size = grownCap w (n + ys.length) c e * ety.size := by
          simp only [Array.size_append, List.size_toArray, size_zeroCells, hzs, hnl, hfl, hsi, ← Nat.add_mul]
          congr 1
          omega
        obtain ⟨q1, q2, q3⟩ := newArr_ok (R.under (below_drew w)) hTe hz0 hrows hsz3 hone3 (co := css1.flatten.toArray ++ css2.flatten.toArray ++ Builtin.zeroCells z.cells (grownCap w (n + ys.length) c e - (n + ys.length)))
          (cap := grownCap w (n + ys.length) c e) (by simp) (Nat.le_of_eq hcs.symm) (grownCap_le_maxLen w _ c e hml) (by rw [List.length_append, hl1]; exact hge)
        rw [List.length_append, hl1] at q2
        refine ⟨_, _, _, hr, q1, q2, ?_⟩
        have := q3.killArr id
        rw [H.newArr_kill _ _ _ (Nat.ne_of_lt (R.arr_lt ha))] at this
        exact this
  · cases hxa
end
end Go.Proofs.YtjofmihdeblbmaaGreatDoor.Xa

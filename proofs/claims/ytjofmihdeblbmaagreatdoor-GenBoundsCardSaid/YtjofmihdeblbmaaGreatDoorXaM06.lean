/- XA, joined: XaF. -/
import Derived.Test.YtjofmihdeblbmaaGreatDoorXaM05
/- XA, part F: append, and cuts of slices and strings. -/
namespace Go.Proofs.YtjofmihdeblbmaaGreatDoor.Xa
open Go Go.RowKit
set_option linter.unusedVariables false
set_option linter.unusedSimpArgs false

def H.kill (h : H) (id : Nat) : H := { h with ext := fun i => if i = id then none else h.ext i }
section
variable {E : Env} {κ : Kp} {h : H} {w : World}
theorem Rel.kill {P : Program} (R : Rel P κ h w) (id : Nat) : Rel P κ (h.kill id) w where
  next := R.next
  pos := R.pos
  below := R.below
  obj := R.obj
  objb := R.objb
  inj := R.inj
  rt := R.rt
  row := R.row
  ext := fun i n hi => by
    change (if i = id then none else h.ext i) = some n at hi
    split at hi
    · cases hi
    · exact R.ext i n hi
  extinj := fun i j n m r s hi hj => by
    change (if i = id then none else h.ext i) = some n at hi
    change (if j = id then none else h.ext j) = some m at hj
    split at hi
    · cases hi
    · split at hj
      · cases hj
      · exact R.extinj i j n m r s hi hj
  free := fun i hx => by
    have := R.free i hx
    refine ⟨this.1, ?_, this.2.2⟩
    show (if i = id then none else h.ext i) = none
    split
    · rfl
    · exact this.2.1
  hole := R.hole
  arr := R.arr
  arrb := R.arrb
  arrinj := R.arrinj
  arro := R.arro
theorem H.row_kill (h : H) (id n : Nat) (hne : id ≠ h.next) : (h.row n).kill id = h.grow id n := by
  unfold H.row H.kill H.grow
  congr 1
  funext i
  dsimp only
  by_cases h1 : i = id
  · subst h1; simp [hne]
  · simp [h1]

def xappend (E : Env) (t : TypeId) (s x : V) (h : H) : Option (V × H) :=
  match E.T t, s, x with
  | some ty, .slc id sz xs, .slc id2 sz2 ys => match ty.desc with
    | .slc e => match E.T e with
      | some ety => if sz2 = ety.size ∧ 0 < ety.size ∧ id2 ≠ 0 ∧ ys.length ≠ 0 ∧ (xs.length + ys.length) * ety.bytes ≤ 140737488355328 ∧ xs.length + ys.length ≤ maxLen then
          if id = 0 then some (.slc h.next ety.size (xs ++ ys), h.row (xs.length + ys.length))
          else if sz = ety.size ∧ h.ext id = some xs.length then some (.slc h.next ety.size (xs ++ ys), h.grow id (xs.length + ys.length)) else none
        else none
      | none => none
    | _ => none
  | _, _, _ => none

theorem prefix_eq {α : Type} {a b : List α} (h : a <+: b) (hl : a.length = b.length) : a = b := h.eq_of_length hl
/-- a new row, of the call's own, holding these -/
theorem newRow_ok (R : Rel E.P κ h w) {e : TypeId} {ety : Ty} (hTe : E.T e = some ety) {rows : List (List V)} {css : List (List Value)} {cells : Array Value} {cap : Nat}
    (hv : VRowss κ rows css) (h2 : ∀ r ∈ rows, r.length = ety.size) (h6 : ∀ x ∈ rows, ∀ v ∈ x, v.one = true) (hl : css.flatten <+: cells.toList) (hcl : cells.size = cap * ety.size) (hm : cap ≤ maxLen) (hcap : rows.length ≤ cap) :
    κ.le (κ.withRow ⟨w.heap.size, 0, cap, e, ety.size⟩ css.flatten) ∧ VRel (κ.withRow ⟨w.heap.size, 0, cap, e, ety.size⟩ css.flatten) (.slc h.next ety.size rows) (.slice (some ⟨w.heap.size, 0, none⟩) rows.length cap) ∧
      Rel E.P (κ.withRow ⟨w.heap.size, 0, cap, e, ety.size⟩ css.flatten) (h.row rows.length) (w.alloc (.cells cells e (0, 0))) := by
  obtain ⟨⟨i, z, hi, hs, hby, hz, hzc, hzs, hz1⟩, _⟩ := E.ok e ety hTe
  have hp : E.P.cellsOf e = ety.size := by simp [Program.cellsOf, hi, hs]
  have hlen : css.flatten.length = rows.length * ety.size := by rw [← hv.flat.length, flatten_len h2]
  have hR := R.newRow (cells := cells) (l := css.flatten) (e := e) (cap := cap) (sz := ety.size) (n := rows.length) hl hlen hcl hm hp
  have hnone : κ.rt w.heap.size = none := by
    cases hr : κ.rt w.heap.size with
    | none => rfl
    | some l => exact absurd (R.rt_lt hr) (Nat.lt_irrefl _)
  have hle := R.withRow_le ⟨w.heap.size, 0, cap, e, ety.size⟩ css.flatten (fun l0 h0 => by rw [hnone] at h0; cases h0)
  refine ⟨hle, ?_, hR⟩
  exact VRel.slc (κ := κ.withRow ⟨w.heap.size, 0, cap, e, ety.size⟩ css.flatten) (id := h.next) (b := w.heap.size) (o := 0) (c := cap) (hv.mono hle) h2 h6 hcap
    ⟨css.flatten, by show (if w.heap.size = w.heap.size then _ else _) = _; rw [if_pos rfl], List.prefix_refl _⟩
    ⟨R.pos, by show h.next < κ.next + 1; rw [R.next]; omega⟩ ⟨_, by show (if h.next = κ.next then _ else _) = _; rw [if_pos R.next.symm], rfl, rfl, rfl, rfl⟩

theorem rt_cells (R : Rel E.P κ h w) {b o : Nat} {ccs : List Value} (hr : rtAt κ b o ccs) : ∀ j v, ccs[j]? = some v → w.cell? ((⟨b, o, none⟩ : Addr).add j) = some v := fun j v hv => by
  rw [Addr.add_mid]; exact rel_rt R hr hv
theorem below_drew (w : World) : Below w.heap.size w w.drew := ⟨rfl, rfl, rfl, Nat.le_refl _, fun _ _ => rfl⟩
theorem xappend_ok (R : Rel E.P κ h w) {t ty : TypeId} {s x v : V} {cs cx : Value} {h' : H} (hs : VRel κ s cs) (hx : VRel κ x cx) (hxa : xappend E t s x h = some (v, h')) :
    Gives E κ w (Builtin.append_ #[t, t] ty #[cs, cx]) v h' := by
  unfold xappend at hxa
  split at hxa
  case h_2 => cases hxa
  rename_i tyv id sz xs id2 sz2 ys hT
  split at hxa
  case h_2 => cases hxa
  rename_i e hd
  split at hxa
  case h_2 => cases hxa
  rename_i ety hTe
  split at hxa
  case isFalse => cases hxa
  rename_i hc
  obtain ⟨hz2, hz0, hid2, hys, hby2, hml⟩ := hc
  obtain ⟨_, d, hu, _, hfit⟩ := E.ok t tyv hT
  rw [hd] at hfit
  obtain rfl : d = .slice e := hfit
  obtain ⟨⟨i, z, hi, hsi, hby, hz, hzc, hzs, hz1⟩, _⟩ := E.ok e ety hTe
  cases hx with
  | nil => exact absurd rfl hid2
  | slc hv2 hsz2 hone2 hc2 hr2 hid2' hrow2 =>
    rename_i b2 o2 c2 css2
    have hnews := rt_cells R hr2
    have hnl : css2.flatten.length = ys.length * i.size := by rw [← hv2.flat.length, flatten_len hsz2, hz2, hsi]
    have hn1 : ∀ u ∈ css2.flatten, u.oneCell' = true := fun u hu => by
      rw [← one_eq]
      refine hv2.flat.ones (fun v hv => ?_) u hu
      obtain ⟨x, hx, hv⟩ := List.mem_flatten.1 hv
      exact hone2 x hx v hv
    have hys2 : ∀ r ∈ ys, r.length = ety.size := fun r hr => by rw [hsz2 r hr, hz2]
    split at hxa
    · -- nil
      rename_i hid0
      subst hid0
      simp only [Option.some.injEq, Prod.mk.injEq] at hxa
      obtain ⟨rfl, rfl⟩ := hxa
      cases hs with
      | slc _ _ _ _ _ hp _ => exact absurd hp.1 (Nat.lt_irrefl 0)
      | nil =>
        simp only [List.length_nil, Nat.zero_add] at hby2 hml ⊢
        have hr := run_append_nil (P := E.P) w t ty e i z hu hi hz ⟨b2, o2, none⟩ ys.length c2 css2.flatten hnl hnews (by omega) (by unfold maxLen at hml; omega) (by rw [hby]; omega)
        have hcs : (css2.flatten.toArray ++ Builtin.zeroCells z.cells (grownCap w ys.length 0 e - ys.length)).size = grownCap w ys.length 0 e * ety.size := by
          have hge := grownCap_ge w ys.length 0 e
          simp only [Array.size_append, List.size_toArray, size_zeroCells, hzs, hnl, ← Nat.add_mul, hsi]
          congr 1
          omega
        obtain ⟨h1, h2, h3⟩ := newRow_ok (R.under (below_drew w)) hTe hv2 hys2 hone2 (cells := css2.flatten.toArray ++ Builtin.zeroCells z.cells (grownCap w ys.length 0 e - ys.length)) (cap := grownCap w ys.length 0 e)
          (by simp) hcs (grownCap_le_maxLen w _ 0 e hml) (grownCap_ge w _ 0 e)
        exact ⟨_, _, _, hr, h1, by simpa using h2, h3⟩
    · rename_i hid0
      split at hxa
      case isFalse => cases hxa
      rename_i hc3
      obtain ⟨rfl, hext⟩ := hc3
      simp only [Option.some.injEq, Prod.mk.injEq] at hxa
      obtain ⟨rfl, rfl⟩ := hxa
      cases hs with
      | nil => exact absurd rfl hid0
      | slc hv1 hsz1 hone1 hc1 hr1 hid1 hrow1 =>
        rename_i b o c css
        obtain ⟨r, l, cells, g1, g2, g3, g4, g4b, g5, g6, g7, g8⟩ := R.ext id _ hext
        obtain ⟨r', g1', q2', q3', q4', q5'⟩ := hrow1
        rw [g1] at g1'
        obtain rfl := Option.some.inj g1'
        subst q2' q4'
        have ho := q3'
        have hrs := q5'
        rw [g4] at ho
        subst ho
        obtain ⟨l', hl1, hl2⟩ := hr1
        rw [g3] at hl1
        obtain rfl := Option.some.inj hl1
        have hfl : css.flatten.length = xs.length * ety.size := by rw [← hv1.flat.length, flatten_len hsz1]
        have hl : css.flatten = l := by
          refine prefix_eq (by simpa using hl2) ?_
          rw [hfl, g4b, hrs]
        subst hl
        have hrows := hv1.append hv2
        have hsz3 : ∀ r ∈ xs ++ ys, r.length = ety.size := fun r hr => by
          rcases List.mem_append.1 hr with hr | hr
          · exact hsz1 r hr
          · exact hys2 r hr
        have hone3 : ∀ x ∈ xs ++ ys, ∀ v ∈ x, v.one = true := fun x hx => by
          rcases List.mem_append.1 hx with hx | hx
          · exact hone1 x hx
          · exact hone2 x hx
        have hsl : id ≠ h.next := by have := hid1.2; rw [R.next] at this; omega
        obtain ⟨cells', e', fz', q1, q2⟩ := R.rt _ _ g3
        rw [g5] at q1
        simp only [Option.some.injEq, Go.Obj.cells.injEq] at q1
        obtain ⟨rfl, rfl, rfl⟩ := q1
        have hre : r.e = e ∨ True := .inr trivial
        by_cases hroom : xs.length + ys.length ≤ r.cap
        · -- in place
          have hfit : xs.length * i.size + css2.flatten.length ≤ cells.size := by
            rw [hnl, g6, hrs, ← Nat.add_mul, hsi]
            exact Nat.mul_le_mul_right _ hroom
          have hst := run_storeCells_at E.P r.b (xs.length * i.size) r.e css2.flatten 0 cells w g5 (by simpa using hfit) hn1
          have hf := run_firstCells_some (P := E.P) w i.size ys.length ⟨b2, o2, none⟩ ys.length c2 css2.flatten hnl hnews
          simp only [Nat.add_zero] at hst
          have hr : (Builtin.append_ #[t, t] ty #[.slice (some ⟨r.b, 0, none⟩) xs.length r.cap, .slice (some ⟨b2, o2, none⟩) ys.length c2]).run E.P w =
              .ok (.slice (some ⟨r.b, 0, none⟩) (xs.length + ys.length) r.cap) (w.setRow r.b (cells.toList.take (xs.length * i.size) ++ css2.flatten ++ cells.toList.drop (xs.length * i.size + css2.flatten.length)).toArray) := by
            simp [Builtin.append_, run_underlying hu, sizeOf, typeInfo, hi, Builtin.lenOf, hroom, hf, Addr.add_lit, hst]
          have htake : cells.toList.take (xs.length * i.size) = css.flatten := by
            obtain ⟨tl, htl⟩ := q2
            rw [← htl, hsi, ← hfl, List.take_left]
          have hgl : css.flatten ++ css2.flatten <+: (cells.toList.take (xs.length * i.size) ++ css2.flatten ++ cells.toList.drop (xs.length * i.size + css2.flatten.length)).toArray.toList := by
            rw [htake]; exact List.prefix_append _ _
          have hG := R.growRow (m := ys.length) (new := css2.flatten) hext g1 g3 (setRow_heap w r.b cells _ r.e _ g5) hgl (by rw [hnl, hsi, hrs])
            (by simp only [List.size_toArray, List.length_append, List.length_take, List.length_drop, Array.length_toList]; rw [← g6]; omega)
            (fun k hk => setRow_other w r.b k _ hk) (setRow_size _ _ _) (setRow_below _ _ _ g2)
          have hle := R.withRow_le r (css.flatten ++ css2.flatten) (fun l0 h0 => by rw [g3] at h0; obtain rfl := Option.some.inj h0; exact List.prefix_append _ _)
          refine ⟨_, _, _, hr, hle, ?_, hG⟩
          have := VRel.slc (κ := κ.withRow r (css.flatten ++ css2.flatten)) (id := h.next) (b := r.b) (o := 0) (c := r.cap) (hrows.mono hle) hsz3 hone3 (by rw [List.length_append]; exact hroom)
            ⟨css.flatten ++ css2.flatten, by show (if r.b = r.b then _ else _) = _; rw [if_pos rfl], by rw [List.flatten_append]; exact List.prefix_refl _⟩
            ⟨R.pos, by show h.next < κ.next + 1; rw [R.next]; omega⟩ ⟨_, by show (if h.next = κ.next then _ else _) = _; rw [if_pos R.next.symm], rfl, g4, rfl, hrs⟩
          rw [List.length_append] at this
          exact this
        · -- elsewhere
          have holds := rt_cells R (⟨css.flatten, g3, by simp⟩ : rtAt κ r.b 0 css.flatten)
          have hr := run_append_grow (P := E.P) w t ty e i z hu hi hz ⟨r.b, 0, none⟩ xs.length r.cap css.flatten (by rw [hfl, hsi]) holds ⟨b2, o2, none⟩ ys.length c2 css2.flatten hnl hnews (by omega) (by unfold maxLen at hml; omega) (growslice_fits (by omega) (by rw [hby]; exact hby2))
          have hge := grownCap_ge w (xs.length + ys.length) r.cap e
          have hcs : (css.flatten.toArray ++ css2.flatten.toArray ++ Builtin.zeroCells z.cells (grownCap w (xs.length + ys.length) r.cap e - (xs.length + ys.length))).size = grownCap w (xs.length + ys.length) r.cap e * ety.size := by
            simp only [Array.size_append, List.size_toArray, size_zeroCells, hzs, hnl, hfl, hsi, ← Nat.add_mul]
            congr 1
            omega
          obtain ⟨h1, h2, h3⟩ := newRow_ok (R.under (below_drew w)) hTe hrows hsz3 hone3 (cells := css.flatten.toArray ++ css2.flatten.toArray ++ Builtin.zeroCells z.cells (grownCap w (xs.length + ys.length) r.cap e - (xs.length + ys.length)))
            (cap := grownCap w (xs.length + ys.length) r.cap e) (by simp) hcs (grownCap_le_maxLen w _ r.cap e hml) (by rw [List.length_append]; exact hge)
          refine ⟨_, _, _, hr, h1, ?_, ?_⟩
          · rw [List.length_append] at h2; exact h2
          · have := h3.kill id
            rw [H.row_kill _ _ _ hsl, List.length_append] at this
            exact this

/-- an index or a bound, if told -/
def xint (o : Option V) (d : Nat) : Option Int :=
  match o with
  | none => some d
  | some (.lit (.int _ n)) => some n
  | _ => none
/-- a nil row may be of any size -/
def nilOr (E : Env) (e : TypeId) (id sz : Nat) : Bool := match E.T e with
  | some ety => id == 0 || ety.size == sz
  | none => false
def xslice (E : Env) (t : TypeId) (x : V) (lo hi mx : Option V) (h : H) : Option (V × H) :=
  match E.T t, x with
  | some ty, .lit (.string s) => match ty.desc, xint lo 0, xint hi s.size, mx with
    | .str, some l, some u, none => if 0 ≤ l ∧ l ≤ u ∧ u ≤ s.size then some (.lit (.string (s.extract l.toNat u.toNat)), h) else none
    | _, _, _, _ => none
  | some ty, .slc id sz xs => match ty.desc, xint lo 0, xint hi xs.length, xint mx xs.length with
    | .slc e, some l, some u, some m => if 0 ≤ l ∧ l ≤ u ∧ u ≤ m ∧ m ≤ xs.length ∧ nilOr E e id sz = true ∧ (mx.isSome = true → hi.isSome = true) then
        if id = 0 then some (.slc 0 sz [], h)
        else if lo.isNone = true ∧ mx.isNone = true then some (.slc id sz (xs.take u.toNat), h)
        else some (.slc h.next sz ((xs.take u.toNat).drop l.toNat), h.bump)
      else none
    | _, _, _, _ => none
  | some ty, .msl id off n sz => match ty.desc, xint lo 0, xint hi n, h.arr id with
    | .slc e, some l, some u, some a => if 0 ≤ l ∧ l ≤ u ∧ u ≤ n ∧ off + n ≤ a.rows.length ∧ (E.T e).map (·.size) = some sz then
        match mx with
        | none => if lo.isNone = true ∨ l < n then some (.msl id (off + l.toNat) (u.toNat - l.toNat) sz, h)
            else some (.msl h.next 0 0 sz, h.moveArr id ⟨[], sz, a.e⟩)
        | some _ => match xint mx n with
          | some m => if lo.isNone = true ∧ hi.isSome = true ∧ u ≤ m ∧ m ≤ n then some (.msl h.next 0 u.toNat sz, h.moveArr id ⟨(a.rows.drop off).take m.toNat, sz, a.e⟩) else none
          | none => none
      else none
    | _, _, _, _ => none
  | _, _ => none
end
end Go.Proofs.YtjofmihdeblbmaaGreatDoor.Xa

/- XA, joined: XaM. -/
import Derived.Test.YtjofmihdeblbmaaGreatDoorXaM11
/- XA, part M: 'x = append(x, f())' as the translation has it: a nought is appended, and the element stored behind it. The slice is told with the element that will be stored; till then a debt is owed. -/
namespace Go.Proofs.YtjofmihdeblbmaaGreatDoor.Xa
open Go Go.RowKit
set_option linter.unusedVariables false
set_option linter.unusedSimpArgs false

abbrev Debt := Nat × Nat × List V      -- the slice's number, the element's place, its cells
def Kp.withHole (κ : Kp) (id : Nat) (x : Nat × Nat) : Kp := { κ with hole := fun i => if i = id then some x else κ.hole i }
def RelD (P : Program) (κ : Kp) (h : H) (w : World) : Option Debt → Prop
  | none => Rel P κ h w
  | some (id, n, vs) => ∃ r cur ccs, κ.hole id = some (r.b, n * vs.length) ∧ κ.row id = some r ∧ r.off = 0 ∧ r.sz = vs.length ∧ w.heap[r.b]? = some (.cells cur r.e (0, 0)) ∧ n * vs.length + vs.length ≤ cur.size ∧ VRels κ vs ccs ∧ (∀ v ∈ vs, v.one = true) ∧
      (∃ l, κ.rt r.b = some l) ∧ κ.w0.heap.size ≤ r.b ∧ Rel P κ h (w.setRow r.b (cur.toList.take (n * vs.length) ++ ccs ++ cur.toList.drop (n * vs.length + vs.length)).toArray)
section
variable {E : Env} {κ : Kp} {h : H} {w : World}
theorem Rel.withHole {P : Program} (R : Rel P κ h w) {id : Nat} (hid : id < κ.next) (hn : κ.hole id = none) (x : Nat × Nat) : κ.le (κ.withHole id x) ∧ Rel P (κ.withHole id x) h w := by
  have hle : κ.le (κ.withHole id x) := ⟨rfl, Nat.le_refl _, fun _ _ h => h, fun _ _ => rfl, fun _ l h => ⟨l, h, List.prefix_refl l⟩, fun i y hy => by
    show (if i = id then _ else _) = _
    rw [if_neg (fun e => by rw [e, hn] at hy; cases hy)]; exact hy, fun _ _ h => h⟩
  refine ⟨hle, R.next, R.pos, R.below, fun i o ho => ?_, R.objb, R.inj, R.rt, R.row, R.ext, R.extinj, R.free, fun i y hy => ?_, fun i a ha => (let ⟨k, h1, h2⟩ := R.arr i a ha; ⟨k, h1, h2.keep hle rfl⟩), R.arrb, R.arrinj, R.arro⟩
  · obtain ⟨b, h1, h2⟩ := R.obj i o ho
    exact ⟨b, h1, h2.mono hle⟩
  · change (if i = id then some x else κ.hole i) = some y at hy
    by_cases e : i = id
    · rw [e]; exact hid
    · rw [if_neg e] at hy; exact R.hole i y hy
theorem Rel.hole_next {P : Program} (R : Rel P κ h w) : κ.hole h.next = none := by
  cases hq : κ.hole h.next with
  | none => rfl
  | some x => have := R.hole _ _ hq; rw [R.next] at this; exact absurd this (Nat.lt_irrefl _)

def xappF (E : Env) (t : TypeId) (s : V) (sz : Nat) (v : V) (h : H) : Option (V × H × Debt) :=
  match E.T t, s with
  | some ty, .slc id sz0 xs => match ty.desc with
    | .slc e => match E.T e with
      | some ety => if sz = ety.size ∧ 0 < ety.size ∧ v.storable = true ∧ v.cells.length = ety.size ∧ (xs.length + 1) * ety.bytes ≤ 140737488355328 ∧ xs.length + 1 ≤ maxLen then
          if id = 0 then some (.slc h.next ety.size (xs ++ [v.cells]), h.row (xs.length + 1), (h.next, xs.length, v.cells))
          else if sz0 = ety.size ∧ h.ext id = some xs.length then some (.slc h.next ety.size (xs ++ [v.cells]), h.grow id (xs.length + 1), (h.next, xs.length, v.cells)) else none
        else none
      | none => none
    | _ => none
  | _, _ => none
theorem setRow_at {w : World} {g : Nat} {old : Array Value} {t : TypeId} (hg : w.heap[g]? = some (.cells old t (0, 0))) (X : Array Value) : (w.setRow g X).heap[g]? = some (.cells X t (0, 0)) := setRow_heap w g old X t (0, 0) hg
theorem mid_eq (A : List Value) (l : List Value) (D : List Value) (n sz : Nat) (hA : A.length = n) (hl : l.length = sz) : (A ++ l ++ D).take n = A ∧ (A ++ l ++ D).drop (n + sz) = D := by
  subst hA hl
  constructor
  · rw [List.append_assoc, List.take_left]
  · rw [← List.length_append, List.drop_left]
theorem RelD.kill {P : Program} {d : Option Debt} (R : RelD P κ h w d) (id : Nat) : RelD P κ (h.kill id) w d := by
  cases d with
  | none => exact Rel.kill R id
  | some d =>
    obtain ⟨di, n, vs⟩ := d
    obtain ⟨r, cur, ccs, h1, h2, h3, h4, h5, h6, h7, h8, h9, h10, h11⟩ := R
    exact ⟨r, cur, ccs, h1, h2, h3, h4, h5, h6, h7, h8, h9, h10, h11.kill id⟩
/-- Two worlds that part in one block's cells alone, with that block's cells set. -/
theorem Rel.set_row {P : Program} {w1 w2 : World} {b : Nat} {e : TypeId} {c1 X : Array Value} (R : Rel P κ h w2) (h2 : w2.heap[b]? = some (.cells X e (0, 0))) (h1 : w1.heap[b]? = some (.cells c1 e (0, 0))) (hk : ∀ k : Nat, k ≠ b → w1.heap[k]? = w2.heap[k]?)
    (hs : w1.heap.size = w2.heap.size) (g1 : w1.os = w2.os) (g2 : w1.tape = w2.tape) (g3 : w1.output = w2.output) : Rel P κ h (w1.setRow b X) := by
  refine R.same (fun k => ?_) (by rw [setRow_size, hs]) g1 g2 g3
  by_cases hkb : k = b
  · subst hkb; rw [setRow_at h1, h2]
  · rw [setRow_other _ _ _ _ hkb, hk k hkb]
theorem fill_new (R : Rel E.P κ h w) {e : TypeId} {ety : Ty} (hTe : E.T e = some ety) {xs : List (List V)} {css : List (List Value)} (hv : VRowss κ xs css) (hsz : ∀ r ∈ xs, r.length = ety.size) (hone : ∀ x ∈ xs, ∀ v ∈ x, v.one = true)
    {vs : List V} {cc : List Value} (hvc : VRels κ vs cc) (hv1 : ∀ v ∈ vs, v.one = true) (hvl : vs.length = ety.size) {l post : List Value} (hl : l.length = ety.size) {cap : Nat} (hcap : xs.length + 1 ≤ cap) (hm : cap ≤ maxLen)
    (hsize : (css.flatten ++ l ++ post).length = cap * ety.size) :
    ∃ κ', κ.le κ' ∧ VRel κ' (.slc h.next ety.size (xs ++ [vs])) (.slice (some ⟨w.heap.size, 0, none⟩) (xs.length + 1) cap) ∧ RelD E.P κ' (h.row (xs.length + 1)) (w.alloc (.cells (css.flatten ++ l ++ post).toArray e (0, 0))) (some (h.next, xs.length, vs)) := by
  have hccl : cc.length = ety.size := by rw [← hvc.length]; exact hvl
  have hfl : css.flatten.length = xs.length * ety.size := by rw [← hv.flat.length, flatten_len hsz]
  have hrows := hv.append (VRowss.cons hvc .nil)
  have hV : (css.flatten ++ cc ++ post).toArray.size = cap * ety.size := by
    rw [← hsize]; simp [hccl, hl]
  obtain ⟨h1, h2, h3⟩ := newRow_ok R hTe hrows (fun r hr => by
      rcases List.mem_append.1 hr with hr | hr
      · exact hsz r hr
      · rw [List.mem_singleton.1 hr]; exact hvl) (fun x hx => by
      rcases List.mem_append.1 hx with hx | hx
      · exact hone x hx
      · rw [List.mem_singleton.1 hx]; exact hv1) (cells := (css.flatten ++ cc ++ post).toArray) (cap := cap) (by simp) hV hm (by simpa using hcap)
  simp only [List.length_append, List.length_cons, List.length_nil, Nat.zero_add] at h2 h3
  have hnone : (κ.withRow ⟨w.heap.size, 0, cap, e, ety.size⟩ (css ++ [cc]).flatten).hole h.next = none := R.hole_next
  obtain ⟨h4, h5⟩ := h3.withHole (id := h.next) (by show h.next < κ.next + 1; rw [R.next]; omega) hnone (w.heap.size, xs.length * vs.length)
  refine ⟨_, h1.trans h4, h2.mono h4, ⟨w.heap.size, 0, cap, e, ety.size⟩, (css.flatten ++ l ++ post).toArray, cc, ?_, ?_, rfl, hvl.symm, alloc_new w _, ?_, hvc.mono (h1.trans h4), hv1, ⟨(css ++ [cc]).flatten, ?_⟩, R.blt, ?_⟩
  · show (if h.next = h.next then _ else _) = _
    rw [if_pos rfl]
  · show (if h.next = κ.next then _ else _) = _
    rw [if_pos R.next.symm]
  · rw [List.size_toArray, hsize, hvl, ← Nat.succ_mul]
    exact Nat.mul_le_mul_right _ hcap
  · show (if w.heap.size = w.heap.size then _ else _) = _
    rw [if_pos rfl]
  · have hm2 := mid_eq css.flatten l post (xs.length * vs.length) vs.length (by rw [hfl, hvl]) (by rw [hl, hvl])
    simp only [hm2.1, hm2.2]
    refine h5.set_row (e := e) (alloc_new w _) (alloc_new w _) (fun k hk => ?_) (by rw [alloc_size, alloc_size]) rfl rfl rfl
    show (w.heap.push _)[k]? = (w.heap.push _)[k]?
    rw [Array.getElem?_push, Array.getElem?_push, if_neg hk, if_neg hk]
theorem xappF_ok (R : Rel E.P κ h w) {t ty : TypeId} {s v res : V} {cs cx c : Value} {sz : Nat} {h' : H} {d : Debt} (hs : VRel κ s cs) (hx : VRel κ (.src sz) cx) (hv : VRel κ v c) (hf : xappF E t s sz v h = some (res, h', d)) :
    ∃ cr w' κ', (Builtin.append_ #[t, t] ty #[cs, cx]).run E.P w = .ok cr w' ∧ κ.le κ' ∧ VRel κ' res cr ∧ RelD E.P κ' h' w' (some d) := by
  unfold xappF at hf
  split at hf
  case h_2 => cases hf
  rename_i tyv id sz0 xs hT
  split at hf
  case h_2 => cases hf
  rename_i e hd
  split at hf
  case h_2 => cases hf
  rename_i ety hTe
  split at hf
  case isFalse => cases hf
  rename_i hc
  obtain ⟨rfl, hz0, hst, hvl, hby2, hml⟩ := hc
  obtain ⟨_, dd, hu, _, hfit⟩ := E.ok t tyv hT
  rw [hd] at hfit
  obtain rfl : dd = .slice e := hfit
  obtain ⟨⟨i, z, hi, hsi, hby, hz, hzc, hzs, hz1⟩, _⟩ := E.ok e ety hTe
  obtain ⟨hvc, hv1⟩ := storable_cells hv hst
  cases hx with
  | src hr2 hl2 hone2 =>
    rename_i b2 l2
    have hnews := rt_cells R hr2
    have hnl : l2.length = 1 * i.size := by rw [hl2, hsi, Nat.one_mul]
    have hccl : c.cells.toList.length = ety.size := by rw [← hvc.length]; exact hvl
    have hv2 : VRowss κ [v.cells] [c.cells.toList] := .cons hvc .nil
    have hsz2 : ∀ r ∈ [v.cells], r.length = ety.size := by simpa using hvl
    have hone : ∀ x ∈ [v.cells], ∀ u ∈ x, u.one = true := by simpa using hv1
    split at hf
    · -- nil
      rename_i hid0
      subst hid0
      simp only [Option.some.injEq, Prod.mk.injEq] at hf
      obtain ⟨rfl, rfl, rfl⟩ := hf
      cases hs with
      | slc _ _ _ _ _ hp _ => exact absurd hp.1 (Nat.lt_irrefl 0)
      | nil =>
        simp only [List.length_nil, Nat.zero_add] at hby2 hml
        have hr := run_append_nil (P := E.P) w t ty e i z hu hi hz ⟨b2, 0, none⟩ 1 1 l2 hnl hnews (by omega) (by omega) (by rw [hby]; omega)
        have hge := grownCap_ge w 1 0 e
        obtain ⟨κ', h1, h2, h3⟩ := fill_new (R.under (below_drew w)) hTe (xs := []) (css := []) .nil (by simp) (by simp) hvc hv1 hvl (l := l2) (post := (Builtin.zeroCells z.cells (grownCap w 1 0 e - 1)).toList) hl2 (cap := grownCap w 1 0 e) hge (grownCap_le_maxLen w _ 0 e hml) (by
          simp only [List.flatten_nil, List.nil_append, List.length_append, Array.length_toList, size_zeroCells, hzs, hl2, hsi]
          have : 1 + (grownCap w 1 0 e - 1) = grownCap w 1 0 e := by omega
          rw [show ety.size + (grownCap w 1 0 e - 1) * ety.size = (1 + (grownCap w 1 0 e - 1)) * ety.size by rw [Nat.add_mul]; omega, this])
        refine ⟨_, _, κ', hr, h1, h2, ?_⟩
        have e2 : (l2.toArray ++ Builtin.zeroCells z.cells (grownCap w 1 0 e - 1)) = (([] : List (List Value)).flatten ++ l2 ++ (Builtin.zeroCells z.cells (grownCap w 1 0 e - 1)).toList).toArray := by simp
        rw [e2]
        exact h3
    · rename_i hid0
      split at hf
      case isFalse => cases hf
      rename_i hc3
      obtain ⟨rfl, hext⟩ := hc3
      simp only [Option.some.injEq, Prod.mk.injEq] at hf
      obtain ⟨rfl, rfl, rfl⟩ := hf
      cases hs with
      | nil => exact absurd rfl hid0
      | slc hv1' hsz1 hone1 hc1 hr1 hid1 hrow1 =>
        rename_i b o cp css
        obtain ⟨r, l, cells, g1, g2, g3, g4, g4b, g5, g6, g7, g8⟩ := R.ext id _ hext
        obtain ⟨r', g1', q2', q3', q4', q5'⟩ := hrow1
        rw [g1] at g1'
        obtain rfl := Option.some.inj g1'
        subst q2' q4'
        have ho := q3'
        have hrs := q5'
        rw [g4] at ho
        subst ho
        obtain ⟨l', hl1, hl2'⟩ := hr1
        rw [g3] at hl1
        obtain rfl := Option.some.inj hl1
        have hfl : css.flatten.length = xs.length * ety.size := by rw [← hv1'.flat.length, flatten_len hsz1]
        have hl : css.flatten = l := by
          refine prefix_eq (by simpa using hl2') ?_
          rw [hfl, g4b, hrs]
        subst hl
        have hsl : id ≠ h.next := by have := hid1.2; rw [R.next] at this; omega
        obtain ⟨cells', e', fz', q1, q2⟩ := R.rt _ _ g3
        rw [g5] at q1
        simp only [Option.some.injEq, Go.Obj.cells.injEq] at q1
        obtain ⟨rfl, rfl, rfl⟩ := q1
        by_cases hroom : xs.length + 1 ≤ r.cap
        · -- in place
          have hfit : xs.length * i.size + l2.length ≤ cells.size := by
            rw [hnl, g6, hrs, ← Nat.add_mul, hsi]
            exact Nat.mul_le_mul_right _ hroom
          have hst2 := run_storeCells_at E.P r.b (xs.length * i.size) r.e l2 0 cells w g5 (by simpa using hfit) hone2
          have hfc := run_firstCells_some (P := E.P) w i.size 1 ⟨b2, 0, none⟩ 1 1 l2 hnl hnews
          simp only [Nat.add_zero] at hst2
          have hr : (Builtin.append_ #[t, t] ty #[.slice (some ⟨r.b, 0, none⟩) xs.length r.cap, .slice (some ⟨b2, 0, none⟩) 1 1]).run E.P w =
              .ok (.slice (some ⟨r.b, 0, none⟩) (xs.length + 1) r.cap) (w.setRow r.b (cells.toList.take (xs.length * i.size) ++ l2 ++ cells.toList.drop (xs.length * i.size + l2.length)).toArray) := by
            simp [Builtin.append_, run_underlying hu, sizeOf, typeInfo, hi, Builtin.lenOf, hroom, hfc, Addr.add_lit, hst2]
          have htake : cells.toList.take (xs.length * i.size) = css.flatten := by
            obtain ⟨tl, htl⟩ := q2
            rw [← htl, hsi, ← hfl, List.take_left]
          rw [htake] at hr
          generalize hD : cells.toList.drop (xs.length * i.size + l2.length) = D at hr
          have hcl : (css.flatten ++ l2 ++ D).length = cells.size := by
            rw [← hD, ← htake]; simp; omega
          have hclV : (css.flatten ++ c.cells.toList ++ D).length = cells.size := by
            rw [← hcl]; simp only [List.length_append, hccl, hl2]
          have hG := R.growRow (m := 1) (new := c.cells.toList) (cells := (css.flatten ++ c.cells.toList ++ D).toArray) hext g1 g3 (setRow_at g5 _) (by simp) (by rw [hccl, hrs, Nat.one_mul])
            (by rw [List.size_toArray, hclV, ← g6]) (fun k hk => setRow_other w r.b k _ hk) (setRow_size _ _ _) (setRow_below _ _ _ g2)
          have hle := R.withRow_le r (css.flatten ++ c.cells.toList) (fun l0 h0 => by rw [g3] at h0; obtain rfl := Option.some.inj h0; exact List.prefix_append _ _)
          have hrows := (hv1'.append hv2).mono hle
          have hVR := VRel.slc (κ := κ.withRow r (css.flatten ++ c.cells.toList)) (id := h.next) (b := r.b) (o := 0) (c := r.cap) hrows (fun r hr => by
              rcases List.mem_append.1 hr with hr | hr
              · exact hsz1 r hr
              · exact hsz2 r hr) (fun x hx => by
              rcases List.mem_append.1 hx with hx | hx
              · exact hone1 x hx
              · exact hone x hx) (by rw [List.length_append]; exact hroom)
            ⟨css.flatten ++ c.cells.toList, by show (if r.b = r.b then _ else _) = _; rw [if_pos rfl], by rw [List.flatten_append]; simp⟩
            ⟨R.pos, by show h.next < κ.next + 1; rw [R.next]; omega⟩ ⟨_, by show (if h.next = κ.next then _ else _) = _; rw [if_pos R.next.symm], rfl, g4, rfl, hrs⟩
          rw [List.length_append] at hVR
          have hnone : (κ.withRow r (css.flatten ++ c.cells.toList)).hole h.next = none := R.hole_next
          obtain ⟨h4, h5⟩ := hG.withHole (id := h.next) (by show h.next < κ.next + 1; rw [R.next]; omega) hnone (r.b, xs.length * v.cells.length)
          refine ⟨_, _, _, hr, hle.trans h4, hVR.mono h4, r, (css.flatten ++ l2 ++ D).toArray, c.cells.toList, ?_, ?_, g4, by rw [hrs, hvl], setRow_at g5 _, ?_, hvc.mono (hle.trans h4), hv1, ⟨css.flatten ++ c.cells.toList, ?_⟩, g2, ?_⟩
          · show (if h.next = h.next then _ else _) = _
            rw [if_pos rfl]
          · show (if h.next = κ.next then _ else _) = _
            rw [if_pos R.next.symm]
          · rw [List.size_toArray, hcl, g6, hrs, hvl, ← Nat.succ_mul]
            exact Nat.mul_le_mul_right _ hroom
          · show (if r.b = r.b then _ else _) = _
            rw [if_pos rfl]
          · have hm2 := mid_eq css.flatten l2 D (xs.length * v.cells.length) v.cells.length (by rw [hfl, hvl]) (by rw [hl2, hvl])
            simp only [hm2.1, hm2.2]
            exact h5.set_row (e := r.e) (setRow_at g5 _) (setRow_at g5 _) (fun k hk => by rw [setRow_other _ _ _ _ hk, setRow_other _ _ _ _ hk]) (by rw [setRow_size, setRow_size]) rfl rfl rfl
        · -- elsewhere
          have holds := rt_cells R (⟨css.flatten, g3, by simp⟩ : rtAt κ r.b 0 css.flatten)
          have hr := run_append_grow (P := E.P) w t ty e i z hu hi hz ⟨r.b, 0, none⟩ xs.length r.cap css.flatten (by rw [hfl, hsi]) holds ⟨b2, 0, none⟩ 1 1 l2 hnl hnews (by omega) (by unfold maxLen at hml; omega) (growslice_fits (by omega) (by rw [hby]; exact hby2))
          have hge := grownCap_ge w (xs.length + 1) r.cap e
          obtain ⟨κ', h1, h2, h3⟩ := fill_new (R.under (below_drew w)) hTe hv1' hsz1 hone1 hvc hv1 hvl (l := l2) (post := (Builtin.zeroCells z.cells (grownCap w (xs.length + 1) r.cap e - (xs.length + 1))).toList) hl2 (cap := grownCap w (xs.length + 1) r.cap e) hge (grownCap_le_maxLen w _ r.cap e hml) (by
            simp only [List.length_append, Array.length_toList, size_zeroCells, hzs, hl2, hsi, hfl]
            have : xs.length + 1 + (grownCap w (xs.length + 1) r.cap e - (xs.length + 1)) = grownCap w (xs.length + 1) r.cap e := by omega
            rw [← this, Nat.add_mul, Nat.add_mul, this]
            omega)
          refine ⟨_, _, κ', hr, h1, h2, ?_⟩
          have e2 : (css.flatten.toArray ++ l2.toArray ++ Builtin.zeroCells z.cells (grownCap w (xs.length + 1) r.cap e - (xs.length + 1))) = (css.flatten ++ l2 ++ (Builtin.zeroCells z.cells (grownCap w (xs.length + 1) r.cap e - (xs.length + 1))).toList).toArray := by simp
          rw [e2]
          have := h3.kill id
          rw [H.row_kill _ _ _ hsl] at this
          exact this
end
end Go.Proofs.YtjofmihdeblbmaaGreatDoor.Xa

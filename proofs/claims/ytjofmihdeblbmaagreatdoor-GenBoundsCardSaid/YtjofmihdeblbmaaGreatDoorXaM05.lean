/- XA, joined: XaD XaE. -/
import Derived.Test.YtjofmihdeblbmaaGreatDoorXaM04
import Derived.Laws.Tables
/- XA, part D: making values: structs, rows. -/
namespace Go.Proofs.YtjofmihdeblbmaaGreatDoor.Xa
open Go Go.RowKit
set_option linter.unusedVariables false
set_option linter.unusedSimpArgs false

theorem VRels.of_get {κ : Kp} : ∀ {vs : List V} {cs : List Value}, vs.length = cs.length → (∀ (i : Nat) (v : V) (c : Value), vs[i]? = some v → cs[i]? = some c → VRel κ v c) → VRels κ vs cs
  | [], [], _, _ => .nil
  | [], _ :: _, h, _ => by simp at h
  | _ :: _, [], h, _ => by simp at h
  | v :: vs, c :: cs, h, k => .cons (k 0 v c rfl rfl) (VRels.of_get (by simpa using h) (fun i v c hv hc => k (i + 1) v c (by simpa using hv) (by simpa using hc)))

theorem conc_rels {κ : Kp} : ∀ {zs : List V} {cs : List Value}, cs.map some = zs.map V.conc → VRels κ zs cs
  | [], [], _ => .nil
  | [], _ :: _, h => by simp at h
  | _ :: _, [], h => by simp at h
  | z :: zs, c :: cs, h => by
    simp only [List.map_cons, List.cons.injEq] at h
    refine .cons ?_ (conc_rels h.2)
    have hz := h.1
    unfold V.conc at hz
    split at hz
    · obtain rfl := Option.some.inj hz; exact .lit _
    · obtain rfl := Option.some.inj hz; exact .nil _
    · cases hz

theorem foldl_set (off : Nat) : ∀ (vs : List Value) (k : Nat) (cells : Array Value), off + k + vs.length ≤ cells.size →
    ((vs.zipIdx k).foldl (fun cs (x : Value × Nat) => cs.setIfInBounds (off + x.2) x.1) cells).toList = cells.toList.take (off + k) ++ vs ++ cells.toList.drop (off + k + vs.length)
  | [], k, cells, _ => by simp
  | v :: vs, k, cells, h => by
    simp only [List.zipIdx_cons, List.foldl_cons]
    rw [foldl_set off vs (k + 1) _ (by simp at h ⊢; omega)]
    have hlt : off + k < cells.toList.length := by simp at h ⊢; omega
    have ht : (List.take (off + k) cells.toList).length = off + k := by rw [List.length_take]; omega
    simp only [Array.toList_setIfInBounds]
    have e0 : off + (k + 1) = off + k + 1 := by omega
    have e2 : off + k + (v :: vs).length = off + k + 1 + vs.length := by rw [List.length_cons]; omega
    rw [e0, e2, List.take_set, List.drop_set_of_lt (by omega), List.take_succ_eq_append_getElem hlt, List.set_append_right _ _ (Nat.le_of_eq ht), ht, Nat.sub_self]
    simp
theorem foldl_set_arr (off : Nat) (vs : Array Value) (cells : Array Value) (h : off + vs.size ≤ cells.size) :
    (vs.zipIdx.foldl (fun cs (x : Value × Nat) => cs.setIfInBounds (off + x.2) x.1) cells).toList = cells.toList.take off ++ vs.toList ++ cells.toList.drop (off + vs.size) := by
  have := foldl_set off vs.toList 0 cells (by simpa using h)
  rw [← Array.foldl_toList, Array.toList_zipIdx]
  simpa using this

/-- parts laid into cells -/
def xfill (place : Nat → Option (Nat × Nat)) (cells : List V) : List (Nat × V) → Option (List V)
  | [] => some cells
  | (i, v) :: rest => match place i with
    | none => none
    | some (off, size) => if v.storable = true ∧ v.cells.length = size ∧ off + size ≤ cells.length then xfill place (splice cells off v.cells) rest else none
theorem splice_length {cs l : List V} {off : Nat} (h : off + l.length ≤ cs.length) : (splice cs off l).length = cs.length := by
  unfold splice; simp; omega
theorem splice_ones {cs l : List V} {off : Nat} (h1 : ∀ v ∈ cs, v.one = true) (h2 : ∀ v ∈ l, v.one = true) : ∀ v ∈ splice cs off l, v.one = true := by
  intro x hx
  unfold splice at hx
  simp only [List.mem_append] at hx
  rcases hx with (hx | hx) | hx
  · exact h1 x (List.mem_of_mem_take hx)
  · exact h2 x hx
  · exact h1 x (List.mem_of_mem_drop hx)
theorem fill_ok {κ : Kp} {f : Operand → V} {g : Operand → Value} (hfg : ∀ x, VRel κ (f x) (g x)) (place : Nat → Option (Nat × Nat)) : ∀ (ps : List (Nat × Operand)) (cells : List V) (ccs : Array Value) (out : List V),
    VRels κ cells ccs.toList → (∀ v ∈ cells, v.one = true) → xfill place cells (ps.map fun p => (p.1, f p.2)) = some out →
    ∃ co, Instr.fill place ccs (ps.map fun p => (p.1, g p.2)) = some co ∧ VRels κ out co.toList ∧ ∀ v ∈ out, v.one = true
  | [], cells, ccs, out, h, h1, hx => by
    simp only [List.map_nil, xfill, Option.some.injEq] at hx
    subst hx
    exact ⟨ccs, rfl, h, h1⟩
  | (i, x) :: ps, cells, ccs, out, h, h1, hx => by
    simp only [List.map_cons, xfill] at hx
    split at hx
    · cases hx
    · rename_i off size hp
      split at hx
      · rename_i hc
        obtain ⟨hs, hl, hle⟩ := hc
        obtain ⟨hvc, hv1⟩ := storable_cells (hfg x) hs
        have hsz : (g x).cells.size = size := by rw [← hl, hvc.length]; simp
        have hcs : cells.length = ccs.size := by rw [h.length]; simp
        have hb : off + (g x).cells.size ≤ ccs.size := by omega
        have hcell := foldl_set_arr off (g x).cells ccs hb
        have hrel : VRels κ (splice cells off (f x).cells) ((g x).cells.zipIdx.foldl (fun cs (y : Value × Nat) => cs.setIfInBounds (off + y.2) y.1) ccs).toList := by
          rw [hcell]
          unfold splice
          rw [hl, hsz]
          exact ((h.take off).append hvc).append (h.drop (off + size))
        obtain ⟨co, h2, h3, h4⟩ := fill_ok hfg place ps _ _ out hrel (splice_ones h1 hv1) hx
        refine ⟨co, ?_, h3, h4⟩
        simp only [List.map_cons, Instr.fill, hp]
        rw [if_neg (by simp [hsz]; omega)]
        exact h2
      · cases hx

/-- where a struct's fields lie -/
def places (T : Nat → Option Ty) : List (Nat × TypeId) → Option (List (Nat × Nat))
  | [] => some []
  | (o, t) :: fs => match T t, places T fs with
    | some ty, some r => some ((o, ty.size) :: r)
    | _, _ => none
theorem places_ok (E : Env) : ∀ (fs : List Field) (r : List (Nat × Nat)), places E.T (fs.map fun x => (x.offset, x.type)) = some r →
    fs.mapM (fun f => (E.P.info? f.type).map fun i => (f.offset, i.size)) = some r
  | [], r, h => by simp only [List.map_nil, places, Option.some.injEq] at h; subst h; rfl
  | f :: fs, r, h => by
    simp only [List.map_cons, places] at h
    split at h
    · rename_i ty r' hT hr
      obtain rfl := Option.some.inj h
      obtain ⟨⟨i, z, hi, hs, _⟩, _⟩ := E.ok _ _ hT
      simp [List.mapM_cons, hi, hs, places_ok E fs r' hr]
    · cases h
def xbuild (E : Env) (t : TypeId) (parts : List (Nat × V)) : Option V :=
  match E.T t with
  | some ty => match ty.desc with
    | .struct fs => match places E.T fs with
      | some pl => (xfill (fun i => pl[i]?) ty.zero parts).map V.agg
      | none => none
    | _ => none
  | none => none
theorem xbuild_ok {E : Env} {κ : Kp} {w : World} {f : Operand → V} {g : Operand → Value} (hfg : ∀ x, VRel κ (f x) (g x)) {t : TypeId} {ps : Array (Nat × Operand)} {v : V}
    (hx : xbuild E t (ps.toList.map fun p => (p.1, f p.2)) = some v) : ∃ c, (Instr.build t (ps.map fun (i, x) => (i, g x))).run E.P w = .ok c w ∧ VRel κ v c := by
  unfold xbuild at hx
  split at hx
  · rename_i ty hT
    split at hx
    · rename_i fs hd
      split at hx
      · rename_i pl hpl
        obtain ⟨⟨i, z, hi, hs, hby, hz, hzc, hzs, hz1⟩, d, hu, hagg, hfit⟩ := E.ok t ty hT
        rw [hd] at hfit
        obtain ⟨F, rfl, hF⟩ := hfit
        cases hxf : xfill (fun i => pl[i]?) ty.zero (ps.toList.map fun p => (p.1, f p.2)) with
        | none => rw [hxf] at hx; cases hx
        | some out =>
          rw [hxf] at hx
          obtain rfl := Option.some.inj hx
          obtain ⟨co, h2, h3, h4⟩ := fill_ok hfg _ ps.toList ty.zero z.cells out (conc_rels hzc) hz1 hxf
          refine ⟨.agg co, ?_, ?_⟩
          · apply run_build
            have hp := places_ok E F.toList pl (by rw [hF]; exact hpl)
            simp only [Program.built, hi, hu, hz, hp]
            have e : (ps.map fun (i, x) => (i, g x)).toList = ps.toList.map fun p => (p.1, g p.2) := by simp
            rw [e]
            simpa using h2
          · have := VRel.agg h3 h4
            simpa using this
      · cases hx
    · cases hx
  · cases hx

/-- rows of elements laid one by one -/
def xrows (sz : Nat) (rows : List (List V)) : List (Nat × V) → Option (List (List V))
  | [] => some rows
  | (i, v) :: rest => if v.storable = true ∧ v.cells.length = sz ∧ i < rows.length then xrows sz (rows.set i v.cells) rest else none
theorem flatten_len {α : Type} {sz : Nat} : ∀ {rows : List (List α)}, (∀ r ∈ rows, r.length = sz) → rows.flatten.length = rows.length * sz
  | [], _ => by simp
  | r :: rows, h => by
    rw [List.flatten_cons, List.length_append, h r (by simp), flatten_len (fun x hx => h x (by simp [hx])), List.length_cons, Nat.add_mul]
    omega
theorem flatten_set {sz : Nat} : ∀ {rows : List (List V)} {i : Nat} {x : List V}, (∀ r ∈ rows, r.length = sz) → i < rows.length → x.length = sz → (rows.set i x).flatten = splice rows.flatten (i * sz) x
  | [], _, _, _, h, _ => by simp at h
  | r :: rows, 0, x, hr, _, hx => by
    have := hr r (by simp)
    simp [splice, hx, ← this]
  | r :: rows, i + 1, x, hr, h, hx => by
    have h1 := hr r (by simp)
    have ih := flatten_set (i := i) (x := x) (fun y hy => hr y (List.mem_cons_of_mem _ hy)) (by simpa using h) hx
    simp only [List.set_cons_succ, List.flatten_cons, ih, splice]
    have e : (i + 1) * sz = r.length + i * sz := by rw [h1, Nat.add_mul]; omega
    rw [e, List.take_append, List.drop_append]
    have e2 : r.length + i * sz + x.length - r.length = i * sz + x.length := by omega
    simp only [List.take_of_length_le (show r.length ≤ r.length + i * sz by omega), List.drop_of_length_le (show r.length ≤ r.length + i * sz + x.length by omega), Nat.add_sub_cancel_left, e2, List.nil_append, List.append_assoc]
theorem set_all {α : Type} {p : α → Prop} {l : List α} {i : Nat} {x : α} (h : ∀ y ∈ l, p y) (hx : p x) : ∀ y ∈ l.set i x, p y := by
  intro y hy
  rcases List.mem_or_eq_of_mem_set hy with h1 | h1
  · exact h y h1
  · exact h1 ▸ hx
theorem xrows_fill {sz : Nat} : ∀ (parts : List (Nat × V)) (rows out : List (List V)), (∀ r ∈ rows, r.length = sz) → xrows sz rows parts = some out →
    xfill (fun i => some (i * sz, sz)) rows.flatten parts = some out.flatten ∧ (∀ r ∈ out, r.length = sz) ∧ out.length = rows.length
  | [], rows, out, hr, hx => by
    simp only [xrows, Option.some.injEq] at hx
    subst hx
    exact ⟨rfl, hr, rfl⟩
  | (i, v) :: parts, rows, out, hr, hx => by
    simp only [xrows] at hx
    split at hx
    · rename_i hc
      obtain ⟨hs, hl, hi⟩ := hc
      obtain ⟨h1, h2, h3⟩ := xrows_fill parts _ out (set_all hr hl) hx
      refine ⟨?_, h2, by rw [h3, List.length_set]⟩
      simp only [xfill]
      have hm : i * sz + sz ≤ rows.flatten.length := by
        rw [flatten_len hr, ← Nat.succ_mul]
        exact Nat.mul_le_mul_right _ hi
      rw [if_pos ⟨hs, hl, hm⟩, ← flatten_set hr hi hl]
      exact h1
    · cases hx
theorem flatten_rep {α : Type} : ∀ (n : Nat) (l : List α) (i : Nat), i < n * l.length → (List.replicate n l).flatten[i]? = l[i % l.length]?
  | 0, l, i, h => by simp at h
  | n + 1, l, i, h => by
    rw [List.replicate_succ, List.flatten_cons]
    by_cases hi : i < l.length
    · rw [List.getElem?_append_left hi, Nat.mod_eq_of_lt hi]
    · rw [List.getElem?_append_right (by omega), flatten_rep n l (i - l.length) (by have := Nat.succ_mul n l.length; simp only [Nat.succ_eq_add_one] at this; omega)]
      congr 1
      exact (Nat.mod_eq_sub_mod (by omega)).symm
theorem zero_rows {κ : Kp} {zs : List V} {z : Array Value} (hz : VRels κ zs z.toList) (n : Nat) (h0 : 0 < z.size) :
    VRels κ (List.replicate n zs).flatten ((Array.range (n * z.size)).map (z[· % z.size]!)).toList := by
  have hlen : zs.length = z.size := by rw [hz.length]; simp
  refine VRels.of_get ?_ ?_
  · rw [flatten_len (sz := zs.length) (fun r hr => by rw [List.eq_of_mem_replicate hr])]
    simp [hlen]
  · intro i v c hv hc
    have hi : i < n * zs.length := by
      have := (List.getElem?_eq_some_iff.1 hv).1
      rwa [flatten_len (sz := zs.length) (fun r hr => by rw [List.eq_of_mem_replicate hr]), List.length_replicate] at this
    rw [flatten_rep n zs i hi] at hv
    have hm : i % z.size < z.size := Nat.mod_lt _ h0
    obtain ⟨c', h1, h2⟩ := hz.get (i := i % zs.length) hv
    rw [hlen] at h1
    have hc2 : c = z[i % z.size]! := by
      have := List.getElem?_eq_some_iff.1 hc
      obtain ⟨hl, he⟩ := this
      rw [← he]
      simp
    have : z[i % z.size]! = c' := by
      rw [getElem!_pos z _ hm]
      have h3 := List.getElem?_eq_some_iff.1 h1
      obtain ⟨_, h4⟩ := h3
      rw [← h4]; simp
    rw [hc2, this]; exact h2
end Go.Proofs.YtjofmihdeblbmaaGreatDoor.Xa
/- XA, part E: the operations that make memory or look into it. -/
namespace Go.Proofs.YtjofmihdeblbmaaGreatDoor.Xa
open Go Go.RowKit
set_option linter.unusedVariables false
set_option linter.unusedSimpArgs false

/-- The operation comes to v, and to the heap h'. -/
def Gives (E : Env) (κ : Kp) (w : World) (s : Sem Value) (v : V) (h' : H) : Prop :=
  ∃ c w' κ', s.run E.P w = .ok c w' ∧ κ.le κ' ∧ VRel κ' v c ∧ Rel E.P κ' h' w'

section
variable {E : Env} {κ : Kp} {h : H} {w : World}
theorem Gives.same (R : Rel E.P κ h w) {s : Sem Value} {v : V} {c : Value} (hr : s.run E.P w = .ok c w) (hv : VRel κ v c) : Gives E κ w s v h := ⟨c, w, κ, hr, .refl κ, hv, R⟩

theorem newVar_ok (R : Rel E.P κ h w) {t : TypeId} {cs : List V} {ccs : Array Value} (hv : VRels κ cs ccs.toList) (h1 : ∀ v ∈ cs, v.one = true) :
    ∃ κ', κ.le κ' ∧ κ'.obj h.next = some w.heap.size ∧ Rel E.P κ' (h.new (.cells cs t)) (w.alloc (.cells ccs t (0, 0))) :=
  ⟨κ.withObj w.heap.size, R.withObj_le _, R.withObj_at _, R.newObj ⟨ccs, alloc_new w _, hv.mono (R.withObj_le _), h1⟩⟩

theorem xalloc_ok (R : Rel E.P κ h w) {t : TypeId} {ty : Ty} (hT : E.T t = some ty) : Gives E κ w (Instr.alloc t true (.tuple #[])) (.ptr h.next 0) (h.new (.cells ty.zero t)) := by
  obtain ⟨⟨i, z, hi, hs, hby, hz, hzc, hzs, hz1⟩, _⟩ := E.ok t ty hT
  obtain ⟨κ', h1, h2, h3⟩ := newVar_ok R (t := t) (conc_rels (κ := κ) hzc) hz1
  refine ⟨.pointer (some ⟨w.heap.size, 0, none⟩), _, κ', ?_, h1, .ptr 0 h2, h3⟩
  simp [Instr.alloc, zeroValue, typeInfo, hi, hz, newVar, newRow, newObj, Sem.run, World.alloc_eq]

theorem xbox_ok (R : Rel E.P κ h w) {t : TypeId} {v : V} {c : Value} (hv : VRel κ v c) (hs : v.storable = true) : Gives E κ w (Instr.box t c) (.ptr h.next 0) (h.new (.cells v.cells t)) := by
  obtain ⟨h4, h5⟩ := storable_cells hv hs
  obtain ⟨κ', h1, h2, h3⟩ := newVar_ok R (t := t) (ccs := c.cells) h4 h5
  refine ⟨.pointer (some ⟨w.heap.size, 0, none⟩), _, κ', ?_, h1, .ptr 0 h2, h3⟩
  simp [Instr.box, newVar, newRow, newObj, Sem.run, World.alloc_eq]

/-- flat cells as rows -/
theorem rows_of_flat : ∀ {rows : List (List V)} {cs : List Value}, VRels κ rows.flatten cs → ∃ css, css.flatten = cs ∧ VRowss κ rows css
  | [], cs, hv => ⟨[], by simpa using hv.inv_nil.symm, .nil⟩
  | r :: rows, cs, hv => by
    have h1 : VRels κ r (cs.take r.length) := by
      have := hv.take r.length
      simpa using this
    have h2 : VRels κ rows.flatten (cs.drop r.length) := by
      have := hv.drop r.length
      simpa using this
    obtain ⟨css, h3, h4⟩ := rows_of_flat h2
    exact ⟨cs.take r.length :: css, by rw [List.flatten_cons, h3, List.take_append_drop], .cons h1 h4⟩

def xbuildSlice (E : Env) (t : TypeId) (n : Nat) (ps : List (Nat × V)) (h : H) : Option (V × H) :=
  match E.T t with
  | some ty => match ty.desc with
    | .slc e => match E.T e with
      | some ety => if 0 < ety.size ∧ n * ety.size ≤ 16777216 then match xrows ety.size (List.replicate n ety.zero) ps with
          | some rows => if E.mtb t = true then some (.msl h.next 0 n ety.size, h.newArr ⟨rows, ety.size, e⟩) else some (.slc h.next ety.size rows, h.row n)
          | none => none
        else none
      | none => none
    | _ => none
  | none => none
/-- a new array of the call's own, whole -/
theorem newArr_ok (R : Rel E.P κ h w) {e : TypeId} {ety : Ty} (hTe : E.T e = some ety) {rows : List (List V)} {css : List (List Value)} {co : Array Value} {cap : Nat} (hpos : 0 < ety.size)
    (hv : VRowss κ rows css) (h2 : ∀ r ∈ rows, r.length = ety.size) (h6 : ∀ x ∈ rows, ∀ v ∈ x, v.one = true) (hl : css.flatten <+: co.toList) (hcl : cap * ety.size ≤ co.size) (hm : cap ≤ maxLen) (hcap : rows.length ≤ cap) :
    κ.le (κ.withArr ⟨w.heap.size, 0, cap, ety.size⟩) ∧ VRel (κ.withArr ⟨w.heap.size, 0, cap, ety.size⟩) (.msl h.next 0 rows.length ety.size) (.slice (some ⟨w.heap.size, 0, none⟩) rows.length cap) ∧
      Rel E.P (κ.withArr ⟨w.heap.size, 0, cap, ety.size⟩) (h.newArr ⟨rows, ety.size, e⟩) (w.alloc (.cells co e (0, 0))) := by
  obtain ⟨⟨i, z, hi, hs, hby, hz, hzc, hzs, hz1⟩, _⟩ := E.ok e ety hTe
  have hp : E.P.cellsOf e = ety.size := by simp [Program.cellsOf, hi, hs]
  have hR := R.newArr (a := ⟨rows, ety.size, e⟩) (cap := cap) hv hl h2 h6 hpos hcl hcap hm hp
  refine ⟨R.withArr_le _, ?_, hR⟩
  have := VRel.msl (κ := κ.withArr ⟨w.heap.size, 0, cap, ety.size⟩) (off := 0) (n := rows.length) (c := cap) (sz := ety.size) (R.withArr_at ⟨w.heap.size, 0, cap, ety.size⟩) rfl (by simp) hcap
  simpa using this
/-- what buildSlice makes in memory -/
theorem buildSlice_run {f : Operand → V} {g : Operand → Value} (hfg : ∀ x, VRel κ (f x) (g x)) {t : TypeId} {n : Nat} {ps : Array (Nat × Operand)} {ty ety : Ty} {e : TypeId} {rows : List (List V)}
    (hT : E.T t = some ty) (hd : ty.desc = .slc e) (hTe : E.T e = some ety) (hc : 0 < ety.size ∧ n * ety.size ≤ 16777216) (hrows : xrows ety.size (List.replicate n ety.zero) (ps.toList.map fun p => (p.1, f p.2)) = some rows) :
    ∃ (co : Array Value) (css : List (List Value)), (∀ w : World, (Instr.buildSlice t n (ps.map fun (i, x) => (i, g x))).run E.P w = .ok (.slice (some ⟨w.heap.size, 0, none⟩) n n) (w.alloc (.cells co e (0, 0)))) ∧ css.flatten = co.toList ∧ VRowss κ rows css ∧
      (∀ r ∈ rows, r.length = ety.size) ∧ rows.length = n ∧ (∀ v ∈ rows.flatten, v.one = true) ∧ co.size = n * ety.size := by
  obtain ⟨_, d, hu, _, hfit⟩ := E.ok t ty hT
  rw [hd] at hfit
  obtain rfl : d = .slice e := hfit
  obtain ⟨⟨i, z, hi, hs, hby, hz, hzc, hzs, hz1⟩, _⟩ := E.ok e ety hTe
  have hzl : ety.zero.length = ety.size := by
    have := congrArg List.length hzc
    simp at this
    omega
  have hrep : ∀ r ∈ List.replicate n ety.zero, r.length = ety.size := fun r hr => by rw [List.eq_of_mem_replicate hr]; exact hzl
  obtain ⟨h1, h2, h3⟩ := xrows_fill _ _ _ hrep hrows
  rw [List.length_replicate] at h3
  have hz0 := zero_rows (κ := κ) (conc_rels hzc) n (by omega)
  have hones : ∀ v ∈ (List.replicate n ety.zero).flatten, v.one = true := by
    intro x hx
    obtain ⟨r, hr, hx⟩ := List.mem_flatten.1 hx
    rw [List.eq_of_mem_replicate hr] at hx
    exact hz1 x hx
  obtain ⟨co, h4, h5, h6⟩ := fill_ok hfg _ ps.toList _ _ _ hz0 hones h1
  have hcl : co.size = n * ety.size := by
    have := h5.length
    rw [flatten_len h2, h3] at this
    simpa using this.symm
  obtain ⟨css, h7, h8⟩ := rows_of_flat h5
  refine ⟨co, css, fun w => ?_, h7, h8, h2, h3, h6, hcl⟩
  have e2 : (ps.map fun (i, x) => (i, g x)).toList = ps.toList.map fun p => (p.1, g p.2) := by simp
  have hfl : Instr.fill (fun i => some (i * ety.size, ety.size)) ((Array.range (n * ety.size)).map (z.cells[· % z.cells.size]!)) (ps.toList.map fun p => (p.1, g p.2)) = some co := by
    rw [hzs, hs] at h4 ⊢; exact h4
  have hns : ¬ (16777216 < n * ety.size) := by omega
  have hzero : (if n * ety.size = 0 then pure #[] else do pure (← zeroValue e).cells : Sem (Array Value)).run E.P w = .ok (if n * ety.size = 0 then #[] else z.cells) w := by
    by_cases h0 : n * ety.size = 0
    · simp [h0]
    · simp [h0, zeroValue, typeInfo, hi, hz]
  simp only [Instr.buildSlice, Sem.run_bind, run_underlying hu, Result.andThen_ok, sizeOf, typeInfo]
  by_cases h0 : n * ety.size = 0
  · have hn0 : n = 0 := by
      rcases Nat.mul_eq_zero.1 h0 with h | h
      · exact h
      · omega
    subst hn0
    simp only [Nat.zero_mul] at hfl
    have hfl2 : Instr.fill (fun i => some (i * ety.size, ety.size)) #[] (ps.toList.map fun p => (p.1, g p.2)) = some co := by
      have hr0 : Array.range 0 = #[] := by simp
      rw [hr0] at hfl
      simpa using hfl
    have hr0 : Array.range 0 = #[] := by simp
    simp [hi, hs, hr0, hfl2, newRow, newObj, Sem.run, World.alloc_eq]
  · have hz2 : (zeroValue e).run E.P w = .ok z w := by simp [zeroValue, typeInfo, hi, hz]
    simp [hi, hs, h0, hns, hz2, hfl, newRow, newObj, Sem.run, World.alloc_eq]
theorem xbuildSlice_ok (R : Rel E.P κ h w) {f : Operand → V} {g : Operand → Value} (hfg : ∀ x, VRel κ (f x) (g x)) {t : TypeId} {n : Nat} {ps : Array (Nat × Operand)} {v : V} {h' : H}
    (hx : xbuildSlice E t n (ps.toList.map fun p => (p.1, f p.2)) h = some (v, h')) : Gives E κ w (Instr.buildSlice t n (ps.map fun (i, x) => (i, g x))) v h' := by
  unfold xbuildSlice at hx
  split at hx
  case h_2 => cases hx
  rename_i ty hT
  split at hx
  case h_2 => cases hx
  rename_i e hd
  split at hx
  case h_2 => cases hx
  rename_i ety hTe
  split at hx
  case isFalse => cases hx
  rename_i hc
  split at hx
  case h_2 => cases hx
  rename_i rows hrows
  obtain ⟨co, css, hrun, h7, h8, h2, h3, h6, hcl⟩ := buildSlice_run hfg hT hd hTe hc hrows
  split at hx
  · simp only [Option.some.injEq, Prod.mk.injEq] at hx
    obtain ⟨rfl, rfl⟩ := hx
    obtain ⟨q1, q2, q3⟩ := newArr_ok R hTe hc.1 h8 h2 (fun x hx v hv => h6 v (List.mem_flatten.2 ⟨x, hx, hv⟩)) (by rw [h7]; exact List.prefix_refl _) (Nat.le_of_eq hcl.symm) (by unfold maxLen; have := Nat.le_mul_of_pos_right n hc.1; omega) (Nat.le_of_eq h3)
    rw [h3] at q2
    exact ⟨_, _, _, hrun w, q1, q2, q3⟩
  simp only [Option.some.injEq, Prod.mk.injEq] at hx
  obtain ⟨rfl, rfl⟩ := hx
  obtain ⟨⟨i, z, hi, hs, hby, hz, hzc, hzs, hz1⟩, _⟩ := E.ok e ety hTe
  have hp : E.P.cellsOf e = ety.size := by simp [Program.cellsOf, hi, hs]
  have hR := R.newRow (cells := co) (l := co.toList) (e := e) (cap := n) (sz := ety.size) (n := n) (List.prefix_refl _) (by simpa using hcl) hcl (by unfold maxLen; have := Nat.le_mul_of_pos_right n hc.1; omega) hp
  have hnone : κ.rt w.heap.size = none := by
    cases hr : κ.rt w.heap.size with
    | none => rfl
    | some l => exact absurd (R.rt_lt hr) (Nat.lt_irrefl _)
  have hle := R.withRow_le ⟨w.heap.size, 0, n, e, ety.size⟩ co.toList (fun l0 h0 => by rw [hnone] at h0; cases h0)
  refine ⟨.slice (some ⟨w.heap.size, 0, none⟩) n n, _, _, hrun w, hle, ?_, hR⟩
  have hv := VRel.slc (κ := κ.withRow ⟨w.heap.size, 0, n, e, ety.size⟩ co.toList) (id := h.next) (b := w.heap.size) (o := 0) (c := n) (h8.mono hle) h2 (fun x hx v hv => h6 v (List.mem_flatten.2 ⟨x, hx, hv⟩)) (Nat.le_of_eq h3)
    ⟨co.toList, by show (if w.heap.size = w.heap.size then _ else _) = _; rw [if_pos rfl], by rw [h7]; exact List.prefix_refl _⟩
    ⟨R.pos, by show h.next < κ.next + 1; rw [R.next]; omega⟩ ⟨_, by show (if h.next = κ.next then _ else _) = _; rw [if_pos R.next.symm], rfl, rfl, rfl, rfl⟩
  rw [h3] at hv
  exact hv
end
end Go.Proofs.YtjofmihdeblbmaaGreatDoor.Xa

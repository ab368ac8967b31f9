/- XA, joined: XaB2. -/
import Derived.Test.YtjofmihdeblbmaaGreatDoorXaM02
/- XA, part B2: arrays that may be written: the moves of the memory. -/
namespace Go.Proofs.YtjofmihdeblbmaaGreatDoor.Xa
open Go Go.RowKit
set_option linter.unusedVariables false
set_option linter.unusedSimpArgs false

def H.newArr (h : H) (a : Arr) : H := { h with next := h.next + 1, arr := fun i => if i = h.next then some a else h.arr i }
def H.putArr (h : H) (id : Nat) (a : Arr) : H := { h with arr := fun i => if i = id then some a else h.arr i }
def H.killArr (h : H) (id : Nat) : H := { h with arr := fun i => if i = id then none else h.arr i }
/-- the array goes on under a new number -/
def H.moveArr (h : H) (id : Nat) (a : Arr) : H := { h with next := h.next + 1, arr := fun i => if i = h.next then some a else if i = id then none else h.arr i }
theorem H.newArr_kill (h : H) (id : Nat) (a : Arr) (hne : id ≠ h.next) : (h.newArr a).killArr id = h.moveArr id a := by
  unfold H.newArr H.killArr H.moveArr
  congr 1
  funext i
  dsimp only
  by_cases h1 : i = id
  · subst h1; simp [hne]
  · simp [h1]
def Kp.withArr (κ : Kp) (k : Blk) : Kp := { κ with next := κ.next + 1, arr := fun i => if i = κ.next then some k else κ.arr i }

section
variable {P : Program} {κ : Kp} {h : H} {w : World}
theorem Rel.withArr_le (R : Rel P κ h w) (k : Blk) : κ.le (κ.withArr k) where
  w0 := rfl
  next := Nat.le_succ _
  obj := fun _ _ hx => hx
  row := fun id hx => rfl
  rt := fun x l hx => ⟨l, hx, List.prefix_refl l⟩
  hole := fun _ _ h => h
  arr := fun id x hx => by
    have := (R.arrb id x hx).2.2
    show (if id = κ.next then _ else _) = _
    rw [if_neg (by omega)]; exact hx
theorem Rel.withArr_at (R : Rel P κ h w) (k : Blk) : (κ.withArr k).arr h.next = some k := by
  show (if h.next = κ.next then some k else κ.arr h.next) = some k
  rw [if_pos R.next.symm]
theorem Rel.arr_none (R : Rel P κ h w) (a : Arr) : h.arr h.next ≠ some a := fun ha => by
  rw [(R.free h.next (Nat.le_refl _)).2.2] at ha; cases ha
theorem Rel.arr_lt (R : Rel P κ h w) {id : Nat} {a : Arr} (ha : h.arr id = some a) : id < h.next := by
  rcases Nat.lt_or_ge id h.next with g | g
  · exact g
  · rw [(R.free id g).2.2] at ha; cases ha
/-- what stays, under one more number for an array -/
theorem Rel.killArr (R : Rel P κ h w) (id : Nat) : Rel P κ (h.killArr id) w where
  next := R.next
  pos := R.pos
  below := R.below
  obj := R.obj
  objb := R.objb
  inj := R.inj
  rt := R.rt
  row := R.row
  ext := R.ext
  extinj := R.extinj
  free := fun i hx => ⟨(R.free i hx).1, (R.free i hx).2.1, by
    show (if i = id then none else h.arr i) = none
    split
    · rfl
    · exact (R.free i hx).2.2⟩
  hole := R.hole
  arr := fun i a hi => by
    change (if i = id then none else h.arr i) = some a at hi
    split at hi
    · cases hi
    · exact R.arr i a hi
  arrb := R.arrb
  arrinj := fun i j a a' k k' hi hj => by
    change (if i = id then none else h.arr i) = some a at hi
    change (if j = id then none else h.arr j) = some a' at hj
    split at hi
    · cases hi
    · split at hj
      · cases hj
      · exact R.arrinj i j a a' k k' hi hj
  arro := fun i a k hi => by
    change (if i = id then none else h.arr i) = some a at hi
    split at hi
    · cases hi
    · exact R.arro i a k hi
/-- One array's cells have turned; nothing else. -/
theorem Rel.turnArr (R : Rel P κ h w) {κ' : Kp} {h' : H} {w' : World} {id : Nat} {a0 : Arr} {k : Blk} (ha : h.arr id = some a0) (hk : κ.arr id = some k) (hle : κ.le κ') (hobj : κ'.obj = κ.obj) (hrow : κ'.row = κ.row) (hrt : κ'.rt = κ.rt) (hhole : κ'.hole = κ.hole)
    (e1 : h'.obj = h.obj) (e2 : h'.ext = h.ext) (hn : κ'.next = h'.next) (hnl : h.next ≤ h'.next) (hw : ∀ j, j ≠ k.b → w'.heap[j]? = w.heap[j]?) (hs : w'.heap.size = w.heap.size) (hB : Below κ.w0.heap.size w w')
    (hfree : ∀ i, h'.next ≤ i → h'.arr i = none)
    (harr : ∀ i a, h'.arr i = some a → (i ≠ id ∧ h.arr i = some a) ∨ ∃ k', κ'.arr i = some k' ∧ ARel P κ' a k' w' ∧ k'.b = k.b)
    (hone : ∀ i j a a', h'.arr i = some a → h'.arr j = some a' → ¬ (i ≠ id ∧ h.arr i = some a) → ¬ (j ≠ id ∧ h.arr j = some a') → i = j)
    (hb : ∀ i k', κ'.arr i = some k' → (κ.arr i = some k') ∨ (k'.b = k.b ∧ i < κ'.next)) : Rel P κ' h' w' where
  next := hn
  pos := Nat.lt_of_lt_of_le R.pos hnl
  below := by rw [hle.w0]; exact R.below.trans hB
  obj := fun i o ho => by
    rw [e1] at ho
    obtain ⟨b, h1, h2⟩ := R.obj i o ho
    exact ⟨b, by rw [hobj]; exact h1, (h2.world (hw b (fun e => (R.arro id a0 k ha hk).2 i (by rw [h1, e])))).mono hle⟩
  objb := fun i b hx => by
    rw [hobj] at hx
    obtain ⟨h1, h2, h3, h4⟩ := R.objb i b hx
    exact ⟨by rw [hle.w0]; exact h1, by omega, by rw [hrt]; exact h3, Nat.lt_of_lt_of_le h4 hle.next⟩
  inj := by rw [hobj]; exact R.inj
  rt := fun b l hl => by
    rw [hrt] at hl
    obtain ⟨c, e, fz, h1, h2⟩ := R.rt b l hl
    refine ⟨c, e, fz, (hw b (fun eb => ?_)).trans h1, h2⟩
    rw [eb, (R.arro id a0 k ha hk).1] at hl
    cases hl
  row := fun i r hr => by
    rw [hrow] at hr
    exact ⟨Nat.lt_of_lt_of_le (R.row i r hr).1 hle.next, (R.row i r hr).2⟩
  ext := fun i n hx => by
    rw [e2] at hx
    obtain ⟨r, l, c, h1, h2, h3, h4, h4b, h5, h6⟩ := R.ext i n hx
    refine ⟨r, l, c, by rw [hrow]; exact h1, by rw [hle.w0]; exact h2, by rw [hrt]; exact h3, h4, h4b, (hw r.b (fun eb => ?_)).trans h5, h6⟩
    rw [eb, (R.arro id a0 k ha hk).1] at h3
    cases h3
  extinj := by rw [e2, hrow]; exact R.extinj
  free := fun i hx => ⟨by rw [e1]; exact (R.free i (Nat.le_trans hnl hx)).1, by rw [e2]; exact (R.free i (Nat.le_trans hnl hx)).2.1, hfree i hx⟩
  hole := fun i x hx => by
    rw [hhole] at hx
    exact Nat.lt_of_lt_of_le (R.hole i x hx) hle.next
  arr := fun i a hi => by
    rcases harr i a hi with ⟨h1, h2⟩ | ⟨k', h1, h2, _⟩
    · obtain ⟨q, g1, g2⟩ := R.arr i a h2
      exact ⟨q, hle.arr _ _ g1, g2.keep hle (hw q.b (fun e => h1 (R.arrinj i id a a0 q k h2 ha g1 hk e)))⟩
    · exact ⟨k', h1, h2⟩
  arrb := fun i k' hx => by
    have h0 := R.arrb id k hk
    rw [hle.w0]
    rcases hb i k' hx with h1 | ⟨h1, h2⟩
    · obtain ⟨g1, g2, g3⟩ := R.arrb i k' h1
      exact ⟨g1, by omega, Nat.lt_of_lt_of_le g3 hle.next⟩
    · rw [h1]
      exact ⟨h0.1, by omega, h2⟩
  arrinj := fun i j a a' q q' hi hj hq hq' hbb => by
    by_cases c1 : i ≠ id ∧ h.arr i = some a <;> by_cases c2 : j ≠ id ∧ h.arr j = some a'
    · obtain ⟨p1, g1, _⟩ := R.arr i a c1.2
      obtain ⟨p2, g2, _⟩ := R.arr j a' c2.2
      have x1 := hle.arr _ _ g1
      have x2 := hle.arr _ _ g2
      rw [hq] at x1
      rw [hq'] at x2
      obtain rfl := Option.some.inj x1
      obtain rfl := Option.some.inj x2
      exact R.arrinj i j a a' _ _ c1.2 c2.2 g1 g2 hbb
    · obtain ⟨p1, g1, _⟩ := R.arr i a c1.2
      have x1 := hle.arr _ _ g1
      rw [hq] at x1
      obtain rfl := Option.some.inj x1
      rcases harr j a' hj with h1 | ⟨k', h1, _, h3⟩
      · exact absurd h1 c2
      · rw [hq'] at h1
        obtain rfl := Option.some.inj h1
        exact absurd (R.arrinj i id a a0 _ k c1.2 ha g1 hk (hbb.trans h3)) c1.1
    · obtain ⟨p2, g2, _⟩ := R.arr j a' c2.2
      have x2 := hle.arr _ _ g2
      rw [hq'] at x2
      obtain rfl := Option.some.inj x2
      rcases harr i a hi with h1 | ⟨k', h1, _, h3⟩
      · exact absurd h1 c1
      · rw [hq] at h1
        obtain rfl := Option.some.inj h1
        exact absurd (R.arrinj j id a' a0 _ k c2.2 ha g2 hk (hbb.symm.trans h3)) c2.1
    · exact hone i j a a' hi hj c1 c2
  arro := fun i a q hi hq => by
    rw [hrt, hobj]
    by_cases c1 : i ≠ id ∧ h.arr i = some a
    · obtain ⟨p1, g1, _⟩ := R.arr i a c1.2
      have x1 := hle.arr _ _ g1
      rw [hq] at x1
      obtain rfl := Option.some.inj x1
      exact R.arro i a _ c1.2 g1
    · rcases harr i a hi with h1 | ⟨k', h1, _, h3⟩
      · exact absurd h1 c1
      · rw [hq] at h1
        obtain rfl := Option.some.inj h1
        rw [h3]
        exact R.arro id a0 k ha hk
theorem Rel.putArr (R : Rel P κ h w) {w' : World} {id : Nat} {a0 a : Arr} {k : Blk} (ha : h.arr id = some a0) (hk : κ.arr id = some k) (hA : ARel P κ a k w') (hw : ∀ j, j ≠ k.b → w'.heap[j]? = w.heap[j]?) (hs : w'.heap.size = w.heap.size) (hB : Below κ.w0.heap.size w w') :
    Rel P κ (h.putArr id a) w' := by
  refine R.turnArr ha hk (Kp.le.refl κ) rfl rfl rfl rfl rfl rfl R.next (Nat.le_refl _) hw hs hB (fun i hi => ?_) (fun i b hi => ?_) (fun i j b b' hi hj c1 c2 => ?_) (fun i k' hk' => .inl hk')
  · show (if i = id then some a else h.arr i) = none
    rw [if_neg (by have := R.arr_lt ha; have : h.next ≤ i := hi; omega)]
    exact (R.free i hi).2.2
  · change (if i = id then some a else h.arr i) = some b at hi
    by_cases e : i = id
    · rw [if_pos e] at hi
      obtain rfl := Option.some.inj hi
      subst e
      exact .inr ⟨k, hk, hA, rfl⟩
    · rw [if_neg e] at hi
      exact .inl ⟨e, hi⟩
  · change (if i = id then some a else h.arr i) = some b at hi
    change (if j = id then some a else h.arr j) = some b' at hj
    by_cases e : i = id
    · by_cases e' : j = id
      · rw [e, e']
      · rw [if_neg e'] at hj; exact absurd ⟨e', hj⟩ c2
    · rw [if_neg e] at hi; exact absurd ⟨e, hi⟩ c1
theorem Rel.moveArr (R : Rel P κ h w) {w' : World} {id : Nat} {a0 a : Arr} {k k' : Blk} (ha : h.arr id = some a0) (hk : κ.arr id = some k) (hkb : k'.b = k.b) (hA : ARel P (κ.withArr k') a k' w') (hw : ∀ j, j ≠ k.b → w'.heap[j]? = w.heap[j]?) (hs : w'.heap.size = w.heap.size) (hB : Below κ.w0.heap.size w w') :
    Rel P (κ.withArr k') (h.moveArr id a) w' := by
  have hlt := R.arr_lt ha
  refine R.turnArr ha hk (R.withArr_le k') rfl rfl rfl rfl rfl rfl (by show κ.next + 1 = h.next + 1; rw [R.next]) (Nat.le_succ _) hw hs hB (fun i hi => ?_) (fun i b hi => ?_) (fun i j b b' hi hj c1 c2 => ?_) (fun i q hq => ?_)
  · have hi' : h.next + 1 ≤ i := hi
    show (if i = h.next then some a else if i = id then none else h.arr i) = none
    rw [if_neg (by omega), if_neg (by omega)]
    exact (R.free i (by omega)).2.2
  · change (if i = h.next then some a else if i = id then none else h.arr i) = some b at hi
    by_cases e : i = h.next
    · rw [if_pos e] at hi
      obtain rfl := Option.some.inj hi
      subst e
      exact .inr ⟨k', R.withArr_at k', hA, hkb⟩
    · rw [if_neg e] at hi
      by_cases e' : i = id
      · rw [if_pos e'] at hi; cases hi
      · rw [if_neg e'] at hi
        exact .inl ⟨e', hi⟩
  · change (if i = h.next then some a else if i = id then none else h.arr i) = some b at hi
    change (if j = h.next then some a else if j = id then none else h.arr j) = some b' at hj
    by_cases e : i = h.next
    · by_cases e' : j = h.next
      · rw [e, e']
      · rw [if_neg e'] at hj
        by_cases e3 : j = id
        · rw [if_pos e3] at hj; cases hj
        · rw [if_neg e3] at hj; exact absurd ⟨e3, hj⟩ c2
    · rw [if_neg e] at hi
      by_cases e3 : i = id
      · rw [if_pos e3] at hi; cases hi
      · rw [if_neg e3] at hi; exact absurd ⟨e3, hi⟩ c1
  · change (if i = κ.next then some k' else κ.arr i) = some q at hq
    by_cases e : i = κ.next
    · rw [if_pos e] at hq
      obtain rfl := Option.some.inj hq
      exact .inr ⟨hkb, by show i < κ.next + 1; omega⟩
    · rw [if_neg e] at hq
      exact .inl hq
/-- A new array. -/
theorem Rel.newArr (R : Rel P κ h w) {a : Arr} {css : List (List Value)} {co : Array Value} {cap : Nat} (hv : VRowss κ a.rows css) (hpre : css.flatten <+: co.toList) (hlen : ∀ r ∈ a.rows, r.length = a.sz) (hone : ∀ r ∈ a.rows, ∀ v ∈ r, v.one = true)
    (hpos : 0 < a.sz) (hsize : cap * a.sz ≤ co.size) (hfit : a.rows.length ≤ cap) (hmost : cap ≤ maxLen) (htyp : P.cellsOf a.e = a.sz) :
    Rel P (κ.withArr ⟨w.heap.size, 0, cap, a.sz⟩) (h.newArr a) (w.alloc (.cells co a.e (0, 0))) := by
  have hle := R.withArr_le ⟨w.heap.size, 0, cap, a.sz⟩
  have hA : ARel P (κ.withArr ⟨w.heap.size, 0, cap, a.sz⟩) a ⟨w.heap.size, 0, cap, a.sz⟩ (w.alloc (.cells co a.e (0, 0))) :=
    ⟨rfl, hpos, ⟨co, css, alloc_new w _, hv.mono hle, by simpa using hpre, by simpa using hsize⟩, hlen, hone, hfit, hmost, htyp⟩
  have hB : Below w.heap.size w (w.alloc (.cells co a.e (0, 0))) := (Below.refl _ w).alloc (Nat.le_refl _) _
  have R1 := R.under hB
  refine ⟨?_, ?_, R1.below, fun i o ho => ?_, fun i b hx => ?_, R1.inj, R1.rt, fun i r hr => ?_, R1.ext, R1.extinj, fun i hx => ?_, fun i x hx => ?_, fun i b hb => ?_, fun i k hk => ?_, fun i j b b' k k' hi hj hk hk' hbb => ?_, fun i b k hb hk => ?_⟩
  · show κ.next + 1 = h.next + 1; rw [R.next]
  · exact Nat.succ_pos _
  · obtain ⟨b, h1, h2⟩ := R1.obj i o ho
    exact ⟨b, h1, h2.mono hle⟩
  · obtain ⟨h1, h2, h3, h4⟩ := R1.objb i b hx
    exact ⟨h1, h2, h3, Nat.lt_succ_of_lt h4⟩
  · exact ⟨Nat.lt_succ_of_lt (R1.row i r hr).1, (R1.row i r hr).2⟩
  · have hx' : h.next + 1 ≤ i := hx
    have h1 := R.free i (by omega)
    refine ⟨h1.1, h1.2.1, ?_⟩
    show (if i = h.next then _ else _) = _
    rw [if_neg (by omega)]; exact h1.2.2
  · exact Nat.lt_succ_of_lt (R1.hole i x hx)
  · change (if i = h.next then some a else h.arr i) = some b at hb
    by_cases e : i = h.next
    · rw [if_pos e] at hb
      obtain rfl := Option.some.inj hb
      subst e
      exact ⟨_, R.withArr_at _, hA⟩
    · rw [if_neg e] at hb
      obtain ⟨k, h1, h2⟩ := R1.arr i b hb
      exact ⟨k, hle.arr _ _ h1, h2.keep hle rfl⟩
  · change (if i = κ.next then some _ else κ.arr i) = some k at hk
    by_cases e : i = κ.next
    · rw [if_pos e] at hk
      obtain rfl := Option.some.inj hk
      exact ⟨R.blt, by show w.heap.size < _; rw [alloc_size]; omega, by show i < κ.next + 1; omega⟩
    · rw [if_neg e] at hk
      obtain ⟨h1, h2, h3⟩ := R1.arrb i k hk
      exact ⟨h1, h2, Nat.lt_succ_of_lt h3⟩
  · change (if i = h.next then some a else h.arr i) = some b at hi
    change (if j = h.next then some a else h.arr j) = some b' at hj
    change (if i = κ.next then some _ else κ.arr i) = some k at hk
    change (if j = κ.next then some _ else κ.arr j) = some k' at hk'
    rw [R.next] at hk hk'
    by_cases ei : i = h.next <;> by_cases ej : j = h.next
    · rw [ei, ej]
    · rw [if_pos ei] at hk; rw [if_neg ej] at hk'
      have := (R.arrb j k' hk').2.1
      obtain rfl := Option.some.inj hk
      simp only at hbb; omega
    · rw [if_neg ei] at hk; rw [if_pos ej] at hk'
      have := (R.arrb i k hk).2.1
      obtain rfl := Option.some.inj hk'
      simp only at hbb; omega
    · rw [if_neg ei] at hk hi; rw [if_neg ej] at hk' hj
      exact R.arrinj i j b b' k k' hi hj hk hk' hbb
  · change (if i = h.next then some a else h.arr i) = some b at hb
    change (if i = κ.next then some _ else κ.arr i) = some k at hk
    rw [R.next] at hk
    by_cases e : i = h.next
    · rw [if_pos e] at hk
      obtain rfl := Option.some.inj hk
      refine ⟨?_, fun j hj => ?_⟩
      · show κ.rt w.heap.size = none
        cases hr : κ.rt w.heap.size with
        | none => rfl
        | some l => exact absurd (R.rt_lt hr) (Nat.lt_irrefl _)
      · exact absurd (R.objb j _ hj).2.1 (Nat.lt_irrefl _)
    · rw [if_neg e] at hb hk
      exact R.arro i b k hb hk
end
end Go.Proofs.YtjofmihdeblbmaaGreatDoor.Xa

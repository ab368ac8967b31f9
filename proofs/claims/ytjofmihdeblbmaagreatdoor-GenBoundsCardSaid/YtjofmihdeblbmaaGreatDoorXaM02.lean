/- XA, joined: XaB. -/
import Derived.Test.YtjofmihdeblbmaaGreatDoorXaM01
/- XA, part B: the moves of the memory: a new object, a store, a new row, a row that grows. -/
namespace Go.Proofs.YtjofmihdeblbmaaGreatDoor.Xa
open Go Go.RowKit
set_option linter.unusedVariables false
set_option linter.unusedSimpArgs false

def H.put (h : H) (id : Nat) (o : Obj) : H := { h with obj := fun i => if i = id then some o else h.obj i }
def H.new (h : H) (o : Obj) : H := { h with next := h.next + 1, obj := fun i => if i = h.next then some o else h.obj i }
def H.row (h : H) (n : Nat) : H := { h with next := h.next + 1, ext := fun i => if i = h.next then some n else h.ext i }
def H.grow (h : H) (id n : Nat) : H := { h with next := h.next + 1, ext := fun i => if i = h.next then some n else if i = id then none else h.ext i }
/-- a slice that shares no right to append: the number alone -/
def H.bump (h : H) : H := { h with next := h.next + 1 }

theorem alloc_new (w : World) (o : Go.Obj) : (w.alloc o).heap[w.heap.size]? = some o := by show (w.heap.push o)[w.heap.size]? = some o; simp
theorem alloc_old (w : World) (o : Go.Obj) {k : Nat} (hk : k < w.heap.size) : (w.alloc o).heap[k]? = w.heap[k]? := Below.heap_alloc w o k hk
theorem alloc_size (w : World) (o : Go.Obj) : (w.alloc o).heap.size = w.heap.size + 1 := by show (w.heap.push o).size = _; simp

section
variable {P : Program} {κ : Kp} {h : H} {w : World}

/-- One more number, with what it stands for. -/
def Kp.withObj (κ : Kp) (b : Nat) : Kp := { κ with next := κ.next + 1, obj := fun i => if i = κ.next then some b else κ.obj i }
def Kp.withRow (κ : Kp) (r : Row) (l : List Value) : Kp := { κ with next := κ.next + 1, row := fun i => if i = κ.next then some r else κ.row i, rt := fun b => if b = r.b then some l else κ.rt b }
def Kp.bump (κ : Kp) (r : Row) : Kp := { κ with next := κ.next + 1, row := fun i => if i = κ.next then some r else κ.row i }

theorem Rel.withObj_le (R : Rel P κ h w) (b : Nat) : κ.le (κ.withObj b) where
  w0 := rfl
  next := Nat.le_succ _
  obj := fun id x hx => by
    have := (R.objb id x hx).2.2.2
    show (if id = κ.next then _ else _) = _
    rw [if_neg (by omega)]; exact hx
  row := fun id hx => rfl
  rt := fun x l hx => ⟨l, hx, List.prefix_refl l⟩
  hole := fun _ _ h => h
  arr := fun _ _ h => h
theorem Rel.bump_le (R : Rel P κ h w) (r : Row) : κ.le (κ.bump r) := ⟨rfl, Nat.le_succ _, fun _ _ h => h, fun id hx => by show (if id = κ.next then _ else _) = _; rw [if_neg (by omega)], fun _ l h => ⟨l, h, List.prefix_refl l⟩, fun _ _ h => h, fun _ _ h => h⟩

theorem Rel.bump (R : Rel P κ h w) (r : Row) : Rel P (κ.bump r) h.bump w where
  next := by show κ.next + 1 = h.next + 1; rw [R.next]
  pos := Nat.succ_pos _
  below := R.below
  obj := fun id o ho => by
    obtain ⟨b, h1, h2⟩ := R.obj id o ho
    exact ⟨b, h1, h2.mono (R.bump_le r)⟩
  objb := fun id b hx => by
    obtain ⟨h1, h2, h3, h4⟩ := R.objb id b hx
    exact ⟨h1, h2, h3, Nat.lt_succ_of_lt h4⟩
  inj := R.inj
  rt := R.rt
  row := fun id s hr => by
    change (if id = κ.next then _ else κ.row id) = some s at hr
    show id < κ.next + 1 ∧ _
    by_cases ei : id = κ.next
    · have := R.pos; rw [← R.next] at this; omega
    · rw [if_neg ei] at hr
      have := R.row id s hr; omega
  ext := fun id n hx => by
    obtain ⟨s, l, c, h1, h2⟩ := R.ext id n hx
    refine ⟨s, l, c, ?_, h2⟩
    show (if id = κ.next then _ else κ.row id) = _
    rw [if_neg (by have := (R.row id s h1).1; omega)]; exact h1
  extinj := fun i j n m a s hi hj ha hs => by
    change (if i = κ.next then _ else κ.row i) = some a at ha
    change (if j = κ.next then _ else κ.row j) = some s at hs
    obtain ⟨a', _, _, g1, _⟩ := R.ext i n hi
    obtain ⟨s', _, _, g2, _⟩ := R.ext j m hj
    rw [if_neg (by have := (R.row i a' g1).1; omega)] at ha
    rw [if_neg (by have := (R.row j s' g2).1; omega)] at hs
    exact R.extinj i j n m a s hi hj ha hs
  free := fun id hx => R.free id (Nat.le_of_succ_le hx)
  hole := fun id x hx => Nat.lt_succ_of_lt (R.hole id x hx)
  arr := fun id a ha => by
    obtain ⟨k, h1, h2⟩ := R.arr id a ha
    exact ⟨k, h1, h2.keep (R.bump_le r) rfl⟩
  arrb := fun id k hx => ⟨(R.arrb id k hx).1, (R.arrb id k hx).2.1, Nat.lt_succ_of_lt (R.arrb id k hx).2.2⟩
  arrinj := R.arrinj
  arro := R.arro

/-- A new object. -/
theorem Rel.newObj (R : Rel P κ h w) {o : Obj} {co : Go.Obj} (ho : ORel (κ.withObj w.heap.size) o w.heap.size (w.alloc co)) : Rel P (κ.withObj w.heap.size) (h.new o) (w.alloc co) where
  next := by show κ.next + 1 = h.next + 1; rw [R.next]
  pos := Nat.succ_pos _
  below := R.below.alloc R.blt co
  obj := fun id o' ho' => by
    change (if id = h.next then some o else h.obj id) = some o' at ho'
    show ∃ b, (if id = κ.next then some w.heap.size else κ.obj id) = some b ∧ _
    rw [R.next]
    by_cases e : id = h.next
    · rw [if_pos e] at ho' ⊢
      obtain rfl := Option.some.inj ho'
      exact ⟨_, rfl, ho⟩
    · rw [if_neg e] at ho' ⊢
      obtain ⟨b, h1, h2⟩ := R.obj id o' ho'
      exact ⟨b, h1, (h2.world (alloc_old w co (R.objb id b h1).2.1)).mono (R.withObj_le _)⟩
  objb := fun id b hx => by
    change (if id = κ.next then some w.heap.size else κ.obj id) = some b at hx
    by_cases e : id = κ.next
    · rw [if_pos e] at hx
      obtain rfl := Option.some.inj hx
      refine ⟨R.blt, by rw [alloc_size]; omega, ?_, by show id < κ.next + 1; omega⟩
      cases hr : κ.rt w.heap.size with
      | none => exact hr
      | some l => exact absurd (R.rt_lt hr) (Nat.lt_irrefl _)
    · rw [if_neg e] at hx
      obtain ⟨h1, h2, h3, h4⟩ := R.objb id b hx
      exact ⟨h1, by rw [alloc_size]; omega, h3, by show id < κ.next + 1; omega⟩
  inj := fun i j b hi hj => by
    change (if i = κ.next then some w.heap.size else κ.obj i) = some b at hi
    change (if j = κ.next then some w.heap.size else κ.obj j) = some b at hj
    by_cases ei : i = κ.next <;> by_cases ej : j = κ.next
    · rw [ei, ej]
    · rw [if_pos ei] at hi; rw [if_neg ej] at hj
      have := (R.objb j b hj).2.1
      have := Option.some.inj hi; omega
    · rw [if_neg ei] at hi; rw [if_pos ej] at hj
      have := (R.objb i b hi).2.1
      have := Option.some.inj hj; omega
    · rw [if_neg ei] at hi; rw [if_neg ej] at hj
      exact R.inj i j b hi hj
  rt := fun b l hl => by
    obtain ⟨c, e, fz, h1, h2⟩ := R.rt b l hl
    exact ⟨c, e, fz, (alloc_old w co (R.rt_lt hl)).trans h1, h2⟩
  row := fun id r hr => ⟨Nat.lt_succ_of_lt (R.row id r hr).1, (R.row id r hr).2⟩
  ext := fun id n hx => by
    obtain ⟨r, l, c, h1, h2, h3, h4, h4b, h5, h6⟩ := R.ext id n hx
    exact ⟨r, l, c, h1, h2, h3, h4, h4b, (alloc_old w co (R.rt_lt h3)).trans h5, h6⟩
  extinj := R.extinj
  free := fun id hx => by
    have hx' : h.next + 1 ≤ id := hx
    have h1 := R.free id (by omega)
    refine ⟨?_, h1.2⟩
    show (if id = h.next then _ else _) = _
    rw [if_neg (by omega)]; exact h1.1
  hole := fun id x hx => Nat.lt_succ_of_lt (R.hole id x hx)
  arr := fun id a ha => by
    obtain ⟨k, h1, h2⟩ := R.arr id a ha
    exact ⟨k, h1, h2.keep (R.withObj_le _) (alloc_old w co (R.arrb id k h1).2.1)⟩
  arrb := fun id k hx => by
    obtain ⟨h1, h2, h3⟩ := R.arrb id k hx
    exact ⟨h1, by rw [alloc_size]; omega, Nat.lt_succ_of_lt h3⟩
  arrinj := R.arrinj
  arro := fun id a k ha hk => by
    obtain ⟨h1, h2⟩ := R.arro id a k ha hk
    refine ⟨h1, fun i hi => ?_⟩
    change (if i = κ.next then some w.heap.size else κ.obj i) = some k.b at hi
    by_cases e : i = κ.next
    · rw [if_pos e] at hi
      have := (R.arrb id k hk).2.1
      have := Option.some.inj hi; omega
    · rw [if_neg e] at hi
      exact h2 i hi

theorem Rel.withObj_at (R : Rel P κ h w) (b : Nat) : (κ.withObj b).obj h.next = some b := by
  show (if h.next = κ.next then some b else κ.obj h.next) = some b
  rw [if_pos R.next.symm]

/-- An object is another one now; nothing else has turned. -/
theorem Rel.putObj (R : Rel P κ h w) {id b : Nat} {o0 o : Obj} {w' : World} (h0 : h.obj id = some o0) (hb : κ.obj id = some b) (ho : ORel κ o b w')
    (hk : ∀ k, k ≠ b → w'.heap[k]? = w.heap[k]?) (hs : w'.heap.size = w.heap.size) (hB : Below κ.w0.heap.size w w') : Rel P κ (h.put id o) w' where
  next := R.next
  pos := R.pos
  below := R.below.trans hB
  obj := fun i o' ho' => by
    change (if i = id then some o else h.obj i) = some o' at ho'
    by_cases e : i = id
    · rw [if_pos e] at ho'
      obtain rfl := Option.some.inj ho'
      subst e
      exact ⟨b, hb, ho⟩
    · rw [if_neg e] at ho'
      obtain ⟨b', h1, h2⟩ := R.obj i o' ho'
      exact ⟨b', h1, h2.world (hk b' (fun eb => e (R.inj i id b (by rw [h1, eb]) hb)))⟩
  objb := fun i b' hx => by
    obtain ⟨h1, h2, h3⟩ := R.objb i b' hx
    exact ⟨h1, by omega, h3⟩
  inj := R.inj
  rt := fun b' l hl => by
    obtain ⟨c, e, fz, h1, h2⟩ := R.rt b' l hl
    refine ⟨c, e, fz, (hk b' (fun eb => ?_)).trans h1, h2⟩
    have := (R.objb id b hb).2.2.1
    rw [← eb, hl] at this
    cases this
  row := R.row
  ext := fun i n hx => by
    obtain ⟨r, l, c, h1, h2, h3, h4, h4b, h5, h6⟩ := R.ext i n hx
    refine ⟨r, l, c, h1, h2, h3, h4, h4b, (hk r.b (fun eb => ?_)).trans h5, h6⟩
    have := (R.objb id b hb).2.2.1
    rw [← eb, h3] at this
    cases this
  extinj := R.extinj
  free := fun i hx => by
    have hx' : h.next ≤ i := hx
    have h1 := R.free i hx'
    refine ⟨?_, h1.2⟩
    have hlt := (R.objb id b hb).2.2.2
    rw [R.next] at hlt
    show (if i = id then _ else _) = _
    rw [if_neg (by omega)]; exact h1.1
  hole := R.hole
  arr := fun i a ha => by
    obtain ⟨k, h1, h2⟩ := R.arr i a ha
    exact ⟨k, h1, h2.keep (Kp.le.refl κ) (hk k.b (fun eb => (R.arro i a k ha h1).2 id (by rw [eb]; exact hb)))⟩
  arrb := fun i k hx => by
    obtain ⟨h1, h2, h3⟩ := R.arrb i k hx
    exact ⟨h1, by omega, h3⟩
  arrinj := R.arrinj
  arro := R.arro

theorem Rel.withRow_le (R : Rel P κ h w) (r : Row) (l : List Value) (hl : ∀ l0, κ.rt r.b = some l0 → l0 <+: l) : κ.le (κ.withRow r l) where
  w0 := rfl
  next := Nat.le_succ _
  obj := fun _ _ hx => hx
  row := fun id hx => by
    show (if id = κ.next then _ else _) = _
    rw [if_neg (by omega)]
  rt := fun b l0 hx => by
    show ∃ l', (if b = r.b then some l else κ.rt b) = some l' ∧ _
    by_cases e : b = r.b
    · rw [if_pos e]; exact ⟨l, rfl, hl l0 (by rw [← e]; exact hx)⟩
    · rw [if_neg e]; exact ⟨l0, hx, List.prefix_refl _⟩
  hole := fun _ _ h => h
  arr := fun _ _ h => h

/-- A new row of the call's own. -/
theorem Rel.newRow (R : Rel P κ h w) {cells : Array Value} {l : List Value} {e : TypeId} {cap sz n : Nat} (hl : l <+: cells.toList) (hn : l.length = n * sz) (hc : cells.size = cap * sz) (hm : cap ≤ maxLen) (hp : P.cellsOf e = sz) :
    Rel P (κ.withRow ⟨w.heap.size, 0, cap, e, sz⟩ l) (h.row n) (w.alloc (.cells cells e (0, 0))) := by
  have hnone : κ.rt w.heap.size = none := by
    cases hr : κ.rt w.heap.size with
    | none => rfl
    | some l => exact absurd (R.rt_lt hr) (Nat.lt_irrefl _)
  have hle : κ.le (κ.withRow ⟨w.heap.size, 0, cap, e, sz⟩ l) := R.withRow_le _ _ (fun l0 h0 => by rw [hnone] at h0; cases h0)
  refine ⟨?_, ?_, ?_, ?_, ?_, ?_, ?_, ?_, ?_, ?_, ?_, fun id x hx => Nat.lt_succ_of_lt (R.hole id x hx), fun id a ha => (let ⟨k, h1, h2⟩ := R.arr id a ha; ⟨k, h1, h2.keep hle (alloc_old w _ (R.arrb id k h1).2.1)⟩),
    fun id k hx => ⟨(R.arrb id k hx).1, by have := (R.arrb id k hx).2.1; rw [alloc_size]; omega, Nat.lt_succ_of_lt (R.arrb id k hx).2.2⟩, R.arrinj, fun id a k ha hk => ⟨?_, (R.arro id a k ha hk).2⟩⟩
  · show κ.next + 1 = h.next + 1; rw [R.next]
  · exact Nat.succ_pos _
  · exact R.below.alloc R.blt _
  · intro id o ho
    obtain ⟨b, h1, h2⟩ := R.obj id o ho
    exact ⟨b, h1, (h2.world (alloc_old w _ (R.objb id b h1).2.1)).mono hle⟩
  · intro id b hx
    obtain ⟨h1, h2, h3, h4⟩ := R.objb id b hx
    refine ⟨h1, by rw [alloc_size]; omega, ?_, by show id < κ.next + 1; omega⟩
    show (if b = w.heap.size then some l else κ.rt b) = none
    rw [if_neg (by omega)]; exact h3
  · exact R.inj
  · intro b l' hl'
    change (if b = w.heap.size then some l else κ.rt b) = some l' at hl'
    by_cases eb : b = w.heap.size
    · rw [if_pos eb] at hl'
      obtain rfl := Option.some.inj hl'
      subst eb
      exact ⟨cells, e, (0, 0), alloc_new w _, hl⟩
    · rw [if_neg eb] at hl'
      obtain ⟨c, e', fz, h1, h2⟩ := R.rt b l' hl'
      exact ⟨c, e', fz, (alloc_old w _ (R.rt_lt hl')).trans h1, h2⟩
  · intro id r hr
    change (if id = κ.next then _ else κ.row id) = some r at hr
    show id < κ.next + 1 ∧ _
    by_cases ei : id = κ.next
    · have := R.pos; rw [← R.next] at this; omega
    · rw [if_neg ei] at hr
      have := R.row id r hr; omega
  · intro id m hx
    change (if id = h.next then some n else h.ext id) = some m at hx
    by_cases ei : id = h.next
    · rw [if_pos ei] at hx
      obtain rfl := Option.some.inj hx
      refine ⟨⟨w.heap.size, 0, cap, e, sz⟩, l, cells, ?_, R.blt, ?_, rfl, hn, alloc_new w _, hc, hm, hp⟩
      · show (if id = κ.next then _ else κ.row id) = _
        rw [if_pos (by rw [R.next]; exact ei)]
      · show (if w.heap.size = w.heap.size then some l else _) = _
        rw [if_pos rfl]
    · rw [if_neg ei] at hx
      obtain ⟨r, l', c, h1, h2, h3, h4, h4b, h5, h6⟩ := R.ext id m hx
      have hlt := R.rt_lt h3
      refine ⟨r, l', c, ?_, h2, ?_, h4, h4b, (alloc_old w _ hlt).trans h5, h6⟩
      · show (if id = κ.next then _ else κ.row id) = _
        rw [if_neg (by rw [R.next]; exact ei)]; exact h1
      · show (if r.b = w.heap.size then some l else _) = _
        rw [if_neg (by omega)]; exact h3
  · intro i j ni nj r s hi hj hr hs hb
    change (if i = h.next then some n else h.ext i) = some ni at hi
    change (if j = h.next then some n else h.ext j) = some nj at hj
    change (if i = κ.next then _ else κ.row i) = some r at hr
    change (if j = κ.next then _ else κ.row j) = some s at hs
    rw [R.next] at hr hs
    by_cases ei : i = h.next <;> by_cases ej : j = h.next
    · rw [ei, ej]
    · rw [if_pos ei] at hr; rw [if_neg ej] at hs hj
      obtain ⟨r', l', c, h1, _, h3, _⟩ := R.ext j nj hj
      rw [hs] at h1
      obtain rfl := Option.some.inj h1
      have := R.rt_lt h3
      have := Option.some.inj hr
      subst this
      simp at hb; omega
    · rw [if_neg ei] at hr hi; rw [if_pos ej] at hs
      obtain ⟨r', l', c, h1, _, h3, _⟩ := R.ext i ni hi
      rw [hr] at h1
      obtain rfl := Option.some.inj h1
      have := R.rt_lt h3
      have := Option.some.inj hs
      subst this
      simp at hb; omega
    · rw [if_neg ei] at hr hi; rw [if_neg ej] at hs hj
      exact R.extinj i j ni nj r s hi hj hr hs hb
  · intro id hx
    have hx' : h.next + 1 ≤ id := hx
    have h1 := R.free id (by omega)
    refine ⟨h1.1, ?_, h1.2.2⟩
    show (if id = h.next then _ else _) = _
    rw [if_neg (by omega)]; exact h1.2.1
  · show (if k.b = w.heap.size then _ else κ.rt k.b) = none
    rw [if_neg (by have := (R.arrb id k hk).2.1; omega)]
    exact (R.arro id a k ha hk).1

/-- A row of the call's own has grown where it lies. -/
theorem Rel.growRow (R : Rel P κ h w) {id n m : Nat} {r : Row} {l new : List Value} {cells : Array Value} {w' : World} (he : h.ext id = some n) (hr : κ.row id = some r) (hl0 : κ.rt r.b = some l)
    (hw : w'.heap[r.b]? = some (.cells cells r.e (0, 0))) (hl : l ++ new <+: cells.toList) (hn : new.length = m * r.sz) (hc : cells.size = r.cap * r.sz)
    (hk : ∀ k, k ≠ r.b → w'.heap[k]? = w.heap[k]?) (hs : w'.heap.size = w.heap.size) (hB : Below κ.w0.heap.size w w') :
    Rel P (κ.withRow r (l ++ new)) (h.grow id (n + m)) w' := by
  obtain ⟨r0, l0, c0, g1, g2, g3, g4, g4b, g5, g6, g7, g8⟩ := R.ext id n he
  rw [hr] at g1
  obtain rfl := Option.some.inj g1
  rw [hl0] at g3
  obtain rfl := Option.some.inj g3
  have hle : κ.le (κ.withRow r (l ++ new)) := R.withRow_le _ _ (fun l0 h0 => by rw [hl0] at h0; obtain rfl := Option.some.inj h0; exact List.prefix_append _ _)
  have hid := R.row id r hr
  have hobj : ∀ i b, κ.obj i = some b → b ≠ r.b := fun i b hb e => by
    have := (R.objb i b hb).2.2.1
    rw [e, hl0] at this
    cases this
  have harr : ∀ i a k, h.arr i = some a → κ.arr i = some k → k.b ≠ r.b := fun i a k ha hk' e => by
    have := (R.arro i a k ha hk').1
    rw [e, hl0] at this
    cases this
  refine ⟨?_, ?_, ?_, ?_, ?_, ?_, ?_, ?_, ?_, ?_, ?_, fun id x hx => Nat.lt_succ_of_lt (R.hole id x hx), fun i a ha => (let ⟨k, h1, h2⟩ := R.arr i a ha; ⟨k, h1, h2.keep hle (hk k.b (harr i a k ha h1))⟩),
    fun i k hx => ⟨(R.arrb i k hx).1, by have := (R.arrb i k hx).2.1; omega, Nat.lt_succ_of_lt (R.arrb i k hx).2.2⟩, R.arrinj, fun i a k ha hk' => ⟨?_, (R.arro i a k ha hk').2⟩⟩
  · show κ.next + 1 = h.next + 1; rw [R.next]
  · exact Nat.succ_pos _
  · exact R.below.trans hB
  · intro i o ho
    obtain ⟨b, h1, h2⟩ := R.obj i o ho
    exact ⟨b, h1, (h2.world (hk b (hobj i b h1))).mono hle⟩
  · intro i b hx
    obtain ⟨h1, h2, h3, h4⟩ := R.objb i b hx
    refine ⟨h1, by omega, ?_, by show i < κ.next + 1; omega⟩
    show (if b = r.b then _ else κ.rt b) = none
    rw [if_neg (hobj i b hx)]; exact h3
  · exact R.inj
  · intro b l' hl'
    change (if b = r.b then some (l ++ new) else κ.rt b) = some l' at hl'
    by_cases eb : b = r.b
    · rw [if_pos eb] at hl'
      obtain rfl := Option.some.inj hl'
      subst eb
      exact ⟨cells, r.e, (0, 0), hw, hl⟩
    · rw [if_neg eb] at hl'
      obtain ⟨c, e', fz, h1, h2⟩ := R.rt b l' hl'
      exact ⟨c, e', fz, (hk b eb).trans h1, h2⟩
  · intro i s hs'
    change (if i = κ.next then _ else κ.row i) = some s at hs'
    show i < κ.next + 1 ∧ _
    by_cases ei : i = κ.next
    · have := R.pos; rw [← R.next] at this; omega
    · rw [if_neg ei] at hs'
      have := R.row i s hs'; omega
  · intro i q hx
    change (if i = h.next then some (n + m) else if i = id then none else h.ext i) = some q at hx
    by_cases ei : i = h.next
    · rw [if_pos ei] at hx
      obtain rfl := Option.some.inj hx
      refine ⟨r, l ++ new, cells, ?_, g2, ?_, g4, ?_, hw, hc, g7, g8⟩
      · show (if i = κ.next then _ else κ.row i) = _
        rw [if_pos (by rw [R.next]; exact ei)]
      · show (if r.b = r.b then some (l ++ new) else _) = _
        rw [if_pos rfl]
      · rw [List.length_append, g4b, hn, Nat.add_mul]
    · rw [if_neg ei] at hx
      by_cases ej : i = id
      · rw [if_pos ej] at hx; cases hx
      · rw [if_neg ej] at hx
        obtain ⟨s, l', c, h1, h2, h3, h4, h4b, h5, h6⟩ := R.ext i q hx
        have hne : s.b ≠ r.b := fun eb => ej (R.extinj i id q n s r hx he h1 hr eb)
        refine ⟨s, l', c, ?_, h2, ?_, h4, h4b, (hk s.b hne).trans h5, h6⟩
        · show (if i = κ.next then _ else κ.row i) = _
          rw [if_neg (by rw [R.next]; exact ei)]; exact h1
        · show (if s.b = r.b then _ else _) = _
          rw [if_neg hne]; exact h3
  · intro i j ni nj a s hi hj ha hs' hb
    change (if i = h.next then some (n + m) else if i = id then none else h.ext i) = some ni at hi
    change (if j = h.next then some (n + m) else if j = id then none else h.ext j) = some nj at hj
    change (if i = κ.next then _ else κ.row i) = some a at ha
    change (if j = κ.next then _ else κ.row j) = some s at hs'
    rw [R.next] at ha hs'
    by_cases ei : i = h.next <;> by_cases ej : j = h.next
    · rw [ei, ej]
    · rw [if_pos ei] at ha; rw [if_neg ej] at hs' hj
      obtain rfl := Option.some.inj ha
      by_cases ek : j = id
      · rw [if_pos ek] at hj; cases hj
      · rw [if_neg ek] at hj
        exact absurd (R.extinj j id nj n s r hj he hs' hr hb.symm) ek
    · rw [if_neg ei] at ha hi; rw [if_pos ej] at hs'
      obtain rfl := Option.some.inj hs'
      by_cases ek : i = id
      · rw [if_pos ek] at hi; cases hi
      · rw [if_neg ek] at hi
        exact absurd (R.extinj i id ni n a r hi he ha hr hb) ek
    · rw [if_neg ei] at ha hi; rw [if_neg ej] at hs' hj
      by_cases ek : i = id
      · rw [if_pos ek] at hi; cases hi
      · by_cases el : j = id
        · rw [if_pos el] at hj; cases hj
        · rw [if_neg ek] at hi; rw [if_neg el] at hj
          exact R.extinj i j ni nj a s hi hj ha hs' hb
  · intro i hx
    have hx' : h.next + 1 ≤ i := hx
    have h1 := R.free i (by omega)
    refine ⟨h1.1, ?_, h1.2.2⟩
    show (if i = h.next then _ else _) = _
    rw [if_neg (by omega)]
    split
    · rfl
    · exact h1.2.1
  · show (if k.b = r.b then _ else κ.rt k.b) = none
    rw [if_neg (harr i a k ha hk')]
    exact (R.arro i a k ha hk').1
end
end Go.Proofs.YtjofmihdeblbmaaGreatDoor.Xa

/- XA: plain: ScopeBlocks: open blocks, what is seen. -/
import Derived.Test.YtjofmihdeblbmaaGreatDoorXaM34
namespace Go.Proofs.YtjofmihdeblbmaaGreatDoor.Xa
open Go Go.RowKit
set_option linter.unusedVariables false
set_option linter.unusedSimpArgs false
set_option maxRecDepth 100000
set_option maxHeartbeats 2000000
/-! ScopeBlocks: blocks that are open, innermost first -/
abbrev Zip := List (List Sm)
def openW : Zip → List (List UInt8)
  | [] => []
  | [l] => Sm.wss l
  | l :: l' :: z => openW (l' :: z) ++ ([k_if, [49], [123]] ++ Sm.wss l)
def openRun : Zip → CS
  | [] => cs0
  | [l] => Sm.runs l cs0
  | l :: l' :: z => Sm.runs l (openRun (l' :: z))
def closeAll : Nat → Zip → List Sm
  | 0, z => z.headD []
  | k + 1, l0 :: l1 :: z => closeAll k ((l1 ++ [.ifS l0]) :: z)
  | _ + 1, z => z.headD []
theorem wss_append : ∀ a b : List Sm, Sm.wss (a ++ b) = Sm.wss a ++ Sm.wss b
  | [], b => rfl
  | t :: a, b => by rw [List.cons_append, Sm.wss, Sm.wss, wss_append a b, List.append_assoc]
theorem runs_append : ∀ (a b : List Sm) (s : CS), Sm.runs (a ++ b) s = Sm.runs b (Sm.runs a s)
  | [], b, s => rfl
  | t :: a, b, s => by rw [List.cons_append, Sm.runs, Sm.runs, runs_append a b]
theorem costs_append : ∀ a b : List Sm, Sm.costs (a ++ b) = Sm.costs a + Sm.costs b
  | [], b => by simp [Sm.costs]
  | t :: a, b => by rw [List.cons_append, Sm.costs, Sm.costs, costs_append a b]; omega
theorem needs_append : ∀ a b : List Sm, Sm.needs (a ++ b) + 2 = Sm.needs a + Sm.needs b
  | [], b => by simp [Sm.needs]; omega
  | t :: a, b => by have := needs_append a b; rw [List.cons_append, Sm.needs, Sm.needs]; omega
theorem deeps_append : ∀ a b : List Sm, Sm.deeps (a ++ b) = max (Sm.deeps a) (Sm.deeps b)
  | [], b => by simp [Sm.deeps]
  | t :: a, b => by rw [List.cons_append, Sm.deeps, Sm.deeps, deeps_append a b]; omega
theorem openW_close (l0 l1 : List Sm) (z : Zip) : openW ((l1 ++ [.ifS l0]) :: z) = openW (l0 :: l1 :: z) ++ [[125]] := by
  cases z with
  | nil => simp [openW, wss_append, Sm.wss, Sm.ws]
  | cons l2 z => simp [openW, wss_append, Sm.wss, Sm.ws]
theorem openW_snoc (l : List Sm) (z : Zip) (t : Sm) : openW ((l ++ [t]) :: z) = openW (l :: z) ++ t.ws := by
  cases z with
  | nil => simp [openW, wss_append, Sm.wss]
  | cons l2 z => simp [openW, wss_append, Sm.wss]
theorem openW_open (l : List Sm) (z : Zip) : openW ([] :: l :: z) = openW (l :: z) ++ [k_if, [49], [123]] := by
  simp [openW, Sm.wss]
theorem openRun_snoc (l : List Sm) (z : Zip) (t : Sm) : openRun ((l ++ [t]) :: z) = t.run (openRun (l :: z)) := by
  cases z with
  | nil => simp [openRun, runs_append, Sm.runs]
  | cons l2 z => simp [openRun, runs_append, Sm.runs]
theorem openRun_open (l : List Sm) (z : Zip) : openRun ([] :: l :: z) = openRun (l :: z) := rfl
theorem openRun_cons (l0 l1 : List Sm) (z : Zip) : openRun (l0 :: l1 :: z) = Sm.runs l0 (openRun (l1 :: z)) := rfl
mutual
theorem run_err : ∀ (t : Sm) (s : CS), s.e ≠ 0 → t.run s = s
  | .letS x, s, h => by rw [Sm.run, if_neg h]
  | .prS x, s, h => by rw [Sm.run, if_neg h]
  | .setS x y, s, h => by rw [Sm.run, if_neg h]
  | .ifS l, s, h => by rw [Sm.run, if_neg h]
theorem runs_err : ∀ (l : List Sm) (s : CS), s.e ≠ 0 → Sm.runs l s = s
  | [], s, h => rfl
  | t :: l, s, h => by rw [Sm.runs, run_err t s h, runs_err l s h]
end
/-- alike but for the names -/
structure Alike (a b : CS) : Prop where
  e : a.e = b.e
  locals : a.locals = b.locals
  slots : a.slots = b.slots
  calls : a.calls = b.calls
theorem Alike.trans {a b c : CS} (x : Alike a b) (y : Alike b c) : Alike a c := ⟨x.e.trans y.e, x.locals.trans y.locals, x.slots.trans y.slots, x.calls.trans y.calls⟩
theorem close_alike (l0 l1 : List Sm) (z : Zip) : Alike (openRun ((l1 ++ [.ifS l0]) :: z)) (openRun (l0 :: l1 :: z)) := by
  rw [openRun_snoc, openRun_cons]
  rw [Sm.run]
  split
  · exact ⟨rfl, rfl, rfl, rfl⟩
  · rename_i h
    rw [runs_err l0 _ h]
    exact ⟨rfl, rfl, rfl, rfl⟩
theorem closeAll_run : ∀ (k : Nat) (z : Zip), z.length = k + 1 → Alike (Sm.runs (closeAll k z) cs0) (openRun z)
  | 0, [l], _ => ⟨rfl, rfl, rfl, rfl⟩
  | 0, [], h => by simp at h
  | 0, _ :: _ :: _, h => by simp at h
  | k + 1, l0 :: l1 :: z, h => by
    rw [closeAll]
    exact (closeAll_run k ((l1 ++ [.ifS l0]) :: z) (by simp at h ⊢; omega)).trans (close_alike l0 l1 z)
  | k + 1, [], h => by simp at h
  | k + 1, [_], h => by simp at h
theorem closeAll_ws : ∀ (k : Nat) (z : Zip), z.length = k + 1 → Sm.wss (closeAll k z) = openW z ++ List.replicate k [125]
  | 0, [l], _ => by simp [closeAll, openW]
  | 0, [], h => by simp at h
  | 0, _ :: _ :: _, h => by simp at h
  | k + 1, l0 :: l1 :: z, h => by
    rw [closeAll, closeAll_ws k _ (by simp at h ⊢; omega), openW_close, List.replicate_succ]
    simp
  | k + 1, [], h => by simp at h
  | k + 1, [_], h => by simp at h
def zCost : Zip → Nat
  | [] => 0
  | l :: z => Sm.costs l + zCost z
def zNeed : Zip → Nat
  | [] => 0
  | l :: z => Sm.needs l + 43 + zNeed z
def zDeep : Zip → Prop
  | [] => True
  | l :: z => Sm.deeps l + z.length ≤ 16 ∧ zDeep z
theorem close_cost (l0 l1 : List Sm) (z : Zip) : zCost ((l1 ++ [.ifS l0]) :: z) = zCost (l0 :: l1 :: z) := by
  simp only [zCost, costs_append, Sm.costs, Sm.cost]; omega
theorem close_need (l0 l1 : List Sm) (z : Zip) : zNeed ((l1 ++ [.ifS l0]) :: z) ≤ zNeed (l0 :: l1 :: z) := by
  have := needs_append l1 [.ifS l0]
  simp only [Sm.needs, Sm.need] at this
  simp only [zNeed]; omega
theorem close_deep (l0 l1 : List Sm) (z : Zip) (h : zDeep (l0 :: l1 :: z)) : zDeep ((l1 ++ [.ifS l0]) :: z) := by
  obtain ⟨h1, h2, h3⟩ := h
  simp only [List.length_cons] at h1
  refine ⟨?_, h3⟩
  simp only [deeps_append, Sm.deeps, Sm.deep]
  omega
theorem closeAll_bd : ∀ (k : Nat) (z : Zip), z.length = k + 1 → zDeep z → Sm.costs (closeAll k z) = zCost z ∧ Sm.needs (closeAll k z) ≤ zNeed z ∧ Sm.deeps (closeAll k z) ≤ 16
  | 0, [l], _, h => by
    refine ⟨by simp [closeAll, zCost], by simp [closeAll, zNeed], ?_⟩
    have := h.1
    simpa [closeAll] using this
  | 0, [], h, _ => by simp at h
  | 0, _ :: _ :: _, h, _ => by simp at h
  | k + 1, l0 :: l1 :: z, h, hd => by
    rw [closeAll]
    obtain ⟨h1, h2, h3⟩ := closeAll_bd k ((l1 ++ [.ifS l0]) :: z) (by simp at h ⊢; omega) (close_deep l0 l1 z hd)
    exact ⟨h1.trans (close_cost l0 l1 z), Nat.le_trans h2 (close_need l0 l1 z), h3⟩
  | k + 1, [], h, _ => by simp at h
  | k + 1, [_], h, _ => by simp at h
/-! the walk's own state: x is seen, declared at a depth -/
def nX : Nam := ⟨[120], by decide +kernel, by decide +kernel⟩
inductive Seen : Zip → Option Nat → Prop
  | none1 (l : List Sm) : (openRun [l]).names = [] → Seen [l] none
  | some1 (l : List Sm) (v : Int) : (openRun [l]).names = [(nX.b, v)] → Seen [l] (some 0)
  | same (l l' : List Sm) (z : Zip) (o : Option Nat) : Seen (l' :: z) o → (openRun (l :: l' :: z)).names = (openRun (l' :: z)).names → Seen (l :: l' :: z) o
  | new (l l' : List Sm) (z : Zip) (v : Int) : Seen (l' :: z) none → (openRun (l :: l' :: z)).names = [(nX.b, v)] → Seen (l :: l' :: z) (some (z.length + 1))
theorem Seen.names : ∀ {z : Zip} {o : Option Nat}, Seen z o → match o with
    | none => (openRun z).names = []
    | some k => k + 1 ≤ z.length ∧ ∃ v, (openRun z).names = [(nX.b, v)] := by
  intro z o h
  induction h with
  | none1 l h => exact h
  | some1 l v h => exact ⟨by simp, v, h⟩
  | same l l' z o h e ih =>
    cases o with
    | none => simp only at ih ⊢; rw [e, ih]
    | some k => obtain ⟨h1, v, h2⟩ := ih; exact ⟨by simp at h1 ⊢; omega, v, by rw [e, h2]⟩
  | new l l' z v h e ih => exact ⟨by simp, v, e⟩
theorem Seen.open {l : List Sm} {z : Zip} {o : Option Nat} (h : Seen (l :: z) o) : Seen ([] :: l :: z) o := .same [] l z o h rfl
/-- behind a block's end -/
def popO (d : Nat) : Option Nat → Option Nat
  | none => none
  | some k => if d < k then none else some k
theorem close_names (l0 l1 : List Sm) (z : Zip) (he : (openRun (l0 :: l1 :: z)).e = 0) (hn : (openRun (l0 :: l1 :: z)).names = (openRun (l1 :: z)).names ∨ (openRun (l1 :: z)).names = []) :
    (openRun ((l1 ++ [.ifS l0]) :: z)).names = (openRun (l1 :: z)).names := by
  rw [openRun_snoc, Sm.run]
  split
  · rw [← openRun_cons]
    rcases hn with hn | hn
    · simp [hn]
    · simp [hn]
  · rfl
theorem Seen.swap {l l' : List Sm} {z : Zip} {o : Option Nat} (h : Seen (l :: z) o) (e : (openRun (l' :: z)).names = (openRun (l :: z)).names) : Seen (l' :: z) o := by
  cases h with
  | none1 _ h => exact .none1 l' (by rw [e, h])
  | some1 _ v h => exact .some1 l' v (by rw [e, h])
  | same _ l2 z o h e2 => exact .same l' l2 z o h (by rw [e, e2])
  | new _ l2 z v h e2 => exact .new l' l2 z v h (by rw [e, e2])
theorem Seen.close {l0 l1 : List Sm} {z : Zip} {o : Option Nat} (h : Seen (l0 :: l1 :: z) o) (he : (openRun (l0 :: l1 :: z)).e = 0) : Seen ((l1 ++ [.ifS l0]) :: z) (popO z.length o) := by
  cases h with
  | same _ _ _ _ h e =>
    have hp : popO z.length o = o := by
      cases o with
      | none => rfl
      | some k =>
        have := h.names.1
        simp only [List.length_cons] at this
        simp only [popO]
        rw [if_neg (by omega)]
    rw [hp]
    exact h.swap (close_names l0 l1 z he (.inl e))
  | new _ _ _ v h e =>
    have hp : popO z.length (some (z.length + 1)) = none := by simp [popO]
    rw [hp]
    have hn := h.names
    simp only at hn
    exact h.swap (close_names l0 l1 z he (.inr hn))
theorem find_none : findR [] nX.b = (0, false) := rfl
theorem find_x (v : Int) : findR [(nX.b, v)] nX.b = (v, true) := by
  simp [findR]
/-- a let, x not seen -/
theorem Seen.let_ {l : List Sm} {z : Zip} (h : Seen (l :: z) none) (he : (openRun (l :: z)).e = 0) :
    Seen ((l ++ [.letS nX]) :: z) (some z.length) := by
  have hn := h.names
  simp only at hn
  have e : (openRun ((l ++ [.letS nX]) :: z)).names = [(nX.b, (openRun (l :: z)).locals)] := by
    rw [openRun_snoc, Sm.run, if_pos he]
    unfold letC
    rw [hn]
    simp [find_none, hn]
  cases z with
  | nil => exact .some1 _ _ e
  | cons l' z =>
    refine .new _ l' z _ ?_ e
    cases h with
    | same _ _ _ _ h _ => exact h
theorem let_good {l : List Sm} {z : Zip} (h : Seen (l :: z) none) (he : (openRun (l :: z)).e = 0) :
    (openRun ((l ++ [.letS nX]) :: z)).e = 0 ∧ (openRun ((l ++ [.letS nX]) :: z)).locals = wr ((openRun (l :: z)).locals + 1) ∧ (openRun ((l ++ [.letS nX]) :: z)).slots.length = (openRun (l :: z)).slots.length + 1 := by
  have hn := h.names
  simp only at hn
  rw [openRun_snoc, Sm.run, if_pos he]
  unfold letC
  rw [hn]
  simp [find_none, he, hn]
theorem let_bad {l : List Sm} {z : Zip} {k : Nat} (h : Seen (l :: z) (some k)) (he : (openRun (l :: z)).e = 0) :
    (openRun ((l ++ [.letS nX]) :: z)).e = 11 := by
  obtain ⟨_, v, hn⟩ := h.names
  rw [openRun_snoc, Sm.run, if_pos he]
  unfold letC
  rw [hn]
  simp [find_x, wrongC, he]
theorem use_good {l : List Sm} {z : Zip} {k : Nat} (h : Seen (l :: z) (some k)) (he : (openRun (l :: z)).e = 0) :
    Seen ((l ++ [.prS nX]) :: z) (some k) ∧ (openRun ((l ++ [.prS nX]) :: z)).e = 0 ∧ (openRun ((l ++ [.prS nX]) :: z)).locals = (openRun (l :: z)).locals ∧ (openRun ((l ++ [.prS nX]) :: z)).slots.length = (openRun (l :: z)).slots.length + 1 := by
  obtain ⟨_, v, hn⟩ := h.names
  have hu : openRun ((l ++ [.prS nX]) :: z) = { openRun (l :: z) with slots := (openRun (l :: z)).slots ++ [v] } := by
    rw [openRun_snoc, Sm.run, if_pos he]
    unfold useC
    rw [hn]
    simp [find_x]
  refine ⟨h.swap (by rw [hu]), ?_⟩
  rw [hu]
  simp [he]
theorem use_bad {l : List Sm} {z : Zip} (h : Seen (l :: z) none) (he : (openRun (l :: z)).e = 0) :
    (openRun ((l ++ [.prS nX]) :: z)).e = 11 := by
  have hn := h.names
  simp only at hn
  rw [openRun_snoc, Sm.run, if_pos he]
  unfold useC
  rw [hn]
  simp [find_none, wrongC, he]
theorem close_run {l0 l1 : List Sm} {z : Zip} : (openRun ((l1 ++ [.ifS l0]) :: z)).e = (openRun (l0 :: l1 :: z)).e ∧ (openRun ((l1 ++ [.ifS l0]) :: z)).locals = (openRun (l0 :: l1 :: z)).locals ∧ (openRun ((l1 ++ [.ifS l0]) :: z)).slots = (openRun (l0 :: l1 :: z)).slots :=
  ⟨(close_alike l0 l1 z).e, (close_alike l0 l1 z).locals, (close_alike l0 l1 z).slots⟩
/-- the state of the text's making -/
structure BlS (z : Zip) (k : Nat) : Prop where
  ne : z ≠ []
  cost : zCost z ≤ k
  need : zNeed z ≤ 45 + 86 * k
  deep : zDeep z
  len : (flatW (openW z)).length ≤ 12 * k
theorem BlS.zero : BlS [[]] 0 := ⟨by simp, by simp [zCost, Sm.costs], by simp [zNeed, Sm.needs], by simp [zDeep, Sm.deeps], by simp [openW, Sm.wss, flatW]⟩
theorem BlS.mono {z : Zip} {k j : Nat} (h : BlS z k) (hk : k ≤ j) : BlS z j := ⟨h.ne, Nat.le_trans h.cost hk, by have := h.need; omega, h.deep, by have := h.len; omega⟩
theorem BlS.open {l : List Sm} {z : Zip} {k : Nat} (h : BlS (l :: z) k) (hz : z.length < 15) : BlS ([] :: l :: z) (k + 1) where
  ne := by simp
  cost := by have := h.cost; simp only [zCost, Sm.costs] at *; omega
  need := by have := h.need; simp only [zNeed, Sm.needs] at *; omega
  deep := ⟨by simp [Sm.deeps]; omega, h.deep⟩
  len := by have := h.len; rw [openW_open, flatW_append]; simp [flatW, k_if] at *; omega
theorem BlS.close {l0 l1 : List Sm} {z : Zip} {k : Nat} (h : BlS (l0 :: l1 :: z) k) : BlS ((l1 ++ [.ifS l0]) :: z) (k + 1) where
  ne := by simp
  cost := by have := h.cost; rw [close_cost]; omega
  need := by have := h.need; have := close_need l0 l1 z; omega
  deep := close_deep l0 l1 z h.deep
  len := by have := h.len; rw [openW_close, flatW_append]; simp [flatW] at *; omega
theorem BlS.snoc {l : List Sm} {z : Zip} {k : Nat} (h : BlS (l :: z) k) (t : Sm) (ht : t = .letS nX ∨ t = .prS nX) : BlS ((l ++ [t]) :: z) (k + 1) where
  ne := by simp
  cost := by have := h.cost; rcases ht with rfl | rfl <;> simp only [zCost, costs_append, Sm.costs, Sm.cost] at * <;> omega
  need := by
    have := h.need
    have := needs_append l [t]
    rcases ht with rfl | rfl <;> simp only [zNeed, Sm.needs, Sm.need] at * <;> omega
  deep := by
    refine ⟨?_, h.deep.2⟩
    have := h.deep.1
    rcases ht with rfl | rfl <;> simp only [deeps_append, Sm.deeps, Sm.deep] at * <;> omega
  len := by
    have := h.len
    rw [openW_snoc, flatW_append]
    rcases ht with rfl | rfl <;> simp [flatW, Sm.ws, k_let, k_print, nX] at * <;> omega
def blInit (z : Zip) : List (List UInt8) := [k_fn, n_main.w, [40]] ++ ([[41], [123]] ++ (openW z ++ List.replicate (z.length - 1) [125]))
/-- what Source tells of the text -/
theorem blocks_src {z : Zip} (h : BlS z 31) (b : ByteArray) (hz : z.length ≤ 16) (hd : b.data.toList = flatW (blInit z) ++ [125]) (hl : (openRun z).locals ≤ 64) :
    if (openRun z).e = 0 then ∃ q r, srcT 1000000 b = some ⟨q, [r], 0, 0⟩ ∧ r.locals = (openRun z).locals ∧ r.slots.length = (openRun z).slots.length ∧ r.e = 0 else srcT 1000000 b = some ⟨[], [], 0, (openRun z).e⟩ := by
  obtain ⟨k, hk⟩ : ∃ k, z.length = k + 1 := by
    have := h.ne
    cases z with
    | nil => exact absurd rfl this
    | cons l z => exact ⟨z.length, by simp⟩
  have hr := closeAll_run k z hk
  obtain ⟨c1, c2, c3⟩ := closeAll_bd k z hk h.deep
  have hw := closeAll_ws k z hk
  have hcost := h.cost
  have hneed := h.need
  have hlen := h.len
  have hb : b.size ≤ 4000 := by
    rw [size_data, hd]
    unfold blInit
    rw [flatW_append, flatW_append, flatW_append]
    have h2 : (flatW (List.replicate (z.length - 1) [125])).length ≤ 32 := by
      have : ∀ n, (flatW (List.replicate n [125])).length = 2 * n := by
        intro n
        induction n with
        | zero => rfl
        | succ n ih => rw [List.replicate_succ, flatW_cons]; simp [ih]; omega
      rw [this]; omega
    have h3 : (flatW [k_fn, n_main.w, [40]]).length = 10 := by decide +kernel
    have h4 : (flatW [[41], [123]]).length = 4 := by decide +kernel
    simp only [List.length_append, h3, h4, List.length_cons, List.length_nil]
    omega
  have hpr := prog_ok 1000000 rfl b hb [⟨n_main, [], closeAll k z⟩] (blInit z) (by
    simp only [List.flatMap_cons, List.flatMap_nil, List.append_nil, FnD.ws, FnD.init, blInit, parW, hw, hk, Nat.add_sub_cancel, List.nil_append]) hd (by
    intro F hF
    simp only [List.mem_cons, List.not_mem_nil, or_false] at hF
    subst hF
    exact ⟨by simp only; omega, by simp only; omega, by simp⟩) (by simp)
  have hs := src_one b (closeAll k z) hpr (by omega) ⟨by simp [cs0]; omega, by simp [cs0]; omega, by simp [cs0]⟩
  have he : (funEnd (Sm.runs (closeAll k z) cs0)).e = (openRun z).e := by
    unfold funEnd
    have : ltB 64 (Sm.runs (closeAll k z) cs0).locals = false := by rw [hr.locals]; unfold ltB; simp; omega
    rw [this]
    simp [hr.e]
  rw [he] at hs
  split
  · rename_i h0
    rw [if_pos h0] at hs
    obtain ⟨q, hq⟩ := hs
    refine ⟨q, _, hq, hr.locals, ?_, ?_⟩
    · show (Sm.runs (closeAll k z) cs0).slots.length = _
      rw [hr.slots]
    · rw [he, h0]
  · rename_i h0
    rw [if_neg h0] at hs
    exact hs
end Go.Proofs.YtjofmihdeblbmaaGreatDoor.Xa

/- XA, joined: XaRng XaBw. -/
import Derived.Test.YtjofmihdeblbmaaGreatDoorProg
import Derived.RangeFuncFrom
import Derived.RangeFuncLeaves
import Derived.RangeFuncBox
import Derived.Shelf.Abstract
import Derived.WalkKit
import Derived.OwnWalkIn
import Derived.TacticsInMore
import Derived.LoopNIn
import Derived.LoopIn
/- A range over a function whose loop variable is boxed at each round: the rounds' assignment makes memory too. -/
namespace Go.Proofs.YtjofmihdeblbmaaGreatDoor.Xa
open Go Go.RowKit
variable {F : Fence} {n : Nat} {P : Program}
theorem range_box {α : Type} {g : Operand} {ps : Array Tmp} {assign body : Code} {Q : Exit → Act → World → Prop} {a : Act} {w : World}
    (hro : F.round = none) (h1 : 1 ≤ n) {gf : Nat} {lb : Array Value} (hg : a.eval g = .func (.func gf) #[] lb) (hFg : F.fn gf) (eg : ∀ args w, (callFunc gf args).run P w = .ok (.enter gf args) w)
    {encs : α → Array Value} {Kp : World → World → Prop} {S Sp : List α → Prop} {N : Nat} {w0 : World} (hseq : SeqStopsK F (n - 1) P gf lb encs Kp S Sp N w0)
    (hKt : ∀ {A B C : World}, Kp A B → Kp B C → Kp A C) (hKb : ∀ (W : World) (l : Nat) (o o' : Obj), w.heap.size ≤ l → W.heap[l]? = some o → o.isCells = false → o.isWalk = false → Kp W (W.putObj l o')) (hb0 : Below w0.heap.size w0 w) (hps : ∀ x, (encs x).size = ps.size)
    (I : List α → World → Prop) (Ia : List α → α → Act → World → Prop) (Ix : Code → List α → World → Prop) (hI : OwnFrom w.heap.size I) (hIa : ∀ pre x, OwnFrom w.heap.size (Ia pre x)) (hIx : ∀ c, OwnFrom w.heap.size (Ix c)) (h0 : I [] w)
    (hassign : ∀ (l : Nat) (pre : List α) (x : α) (W : World), I pre W → pre.length < N →
      assign.wpIn (F.inRound l) (n - 1 - 1) P (Exit.then (fun a1 W1 => KeepsOthers W W1 ∧ Kp W W1 ∧ Ia pre x a1 W1) (fun _ _ _ => False)) { tmps := (ps.zip (encs x)).foldl (fun t (p, v) => t.setIfInBounds p v) a.tmps, defers := [] } W)
    (hbody : ∀ (l : Nat) (pre : List α) (x : α) (a1 : Act) (W : World), Ia pre x a1 W → body.wpIn (F.inRound l) (n - 1 - 1) P (ownPostK Kp I Ix (pre ++ [x]) W) a1 W)
    (hdone : ∀ (D : Nat) (xs : List α) (W : World), w.heap.size ≤ D → S xs → I xs W → W.heap[D]? = some (.deferred (some [])) → Q .normal { a with defers := { target := .collected D, args := #[] } :: a.defers } W)
    (hstop : ∀ (D : Nat) (c : Code) (pre : List α) (W : World), w.heap.size ≤ D → Sp pre → Ix c pre W → W.heap[D]? = some (.deferred (some [])) → c.wpIn F n P Q { a with defers := { target := .collected D, args := #[] } :: a.defers } W) :
    (Code.rangeFunc g ps assign body).wpIn F n P Q a w := by
  refine wpIn_rangeFunc fun fn hfn => ?_
  rw [hro]
  obtain ⟨rec, hrec⟩ : ∃ rec : LoopState → Option Code → Loop, rec = fun st pe => { state := st, pending := pe, fn, tmps := a.tmps, params := ps, assign, body, defers := w.heap.size } := ⟨_, rfl⟩
  obtain ⟨W1, hW1⟩ : ∃ W1, (w.alloc (.deferred (some []))).alloc (.loop (rec .ready none)) = W1 := ⟨_, rfl⟩
  have hL1 : W1.heap[w.heap.size + 1]? = some (.loop (rec .ready none)) := by
    rw [← hW1]
    have := World.alloc_heap_new (w.alloc (.deferred (some []))) (.loop (rec .ready none))
    rwa [World.size_alloc] at this
  have hK1 : W1.heap[w.heap.size]? = some (.deferred (some [])) := by
    rw [← hW1]
    exact (Below.heap_alloc _ _ _ (by simp)).trans (World.alloc_heap_new w _)
  have hsz : W1.heap.size = w.heap.size + 2 := by rw [← hW1]; simp
  have hI1 : I [] W1 := by rw [← hW1]; exact hI.alloc _ (hI.alloc _ h0)
  have hb1 : Below w0.heap.size w0 W1 := by
    rw [← hW1]
    exact hb0.trans ((((Below.refl _ w).alloc (Nat.le_refl _) _).alloc (by simp) _).mono hb0.size)
  refine ⟨w.heap.size + 1, [{ target := .collected w.heap.size, args := #[] }], W1, { target := .fn (.func gf) lb, args := #[.func (.yield (w.heap.size + 1)) #[] #[]] }, W1, gf,
    #[.func (.yield (w.heap.size + 1)) #[] #[]] ++ lb, W1, ?_, ?_, ?_, ?_, fun _ => h1, ?_⟩
  · rw [← hW1, hrec]; exact run_enterLoop_outer _ _ _ _ _
  · simp only [resolve, hg]
    simp [go_sem]
  · intro f' hf'
    simp [Target.leads] at hf'
    subst hf'; exact hFg
  · simp [invoke, go_sem, eg]
  have hnw : ∀ {A B : World} {row : Option Nat}, (∀ r, row = some r → W1.heap.size ≤ r ∧ ∃ o : Obj, A.heap[r]? = some o ∧ o.isWalk = true) → (∀ r, row = some r → w.heap.size ≤ r ∧ ∃ o : Obj, A.heap[r]? = some o ∧ o.isCells = false) :=
    fun hr r e => let ⟨hB, o, ho, hw⟩ := hr r e; ⟨by omega, o, ho, Obj.not_cells_of_walk hw⟩
  refine (hseq (w.heap.size + 1)
    (fun pre W => I pre W ∧ W.heap[w.heap.size + 1]? = some (.loop (rec .ready none)) ∧ W.heap[w.heap.size]? = some (.deferred (some [])))
    (fun pre W => ∃ c, Ix c pre W ∧ W.heap[w.heap.size + 1]? = some (.loop (rec .done (some c))) ∧ W.heap[w.heap.size]? = some (.deferred (some [])))
    W1 hb1
    (fun s A B row hs hg' hr => ⟨hI s A B row hs.1 hg' (hnw (B := B) hr), (grownBy_keeps hg' (fun r e => (hr r e).2) hs.2.1 rfl).trans hs.2.1, (grownBy_keeps hg' (fun r e => (hr r e).2) hs.2.2 rfl).trans hs.2.2⟩)
    (fun s A B row hs hg' hr => let ⟨c, hc, hl, hk⟩ := hs
      ⟨c, hIx c s A B row hc hg' (hnw (B := B) hr), (grownBy_keeps hg' (fun r e => (hr r e).2) hl rfl).trans hl, (grownBy_keeps hg' (fun r e => (hr r e).2) hk rfl).trans hk⟩)
    ?_ ⟨hI1, hL1, hK1⟩).mono ?_
  · rintro pre x W ⟨hi, hl, hk⟩ hlen
    have hy := run_yield (P := P) (args := encs x) hl (by rw [hrec]; exact hps x)
    rw [hrec] at hy
    refine ⟨fn, _, assign, body, hy, roundIn_of_wpIn hfn (wpIn_mono (hassign _ pre x W hi hlen) ?_)⟩
    rintro e a1 Wa hp
    cases e <;> try exact hp.elim
    obtain ⟨hka, hkpa, hia⟩ := hp
    have hla := hka.same _ _ hl rfl
    have hkka := hka.same _ _ hk rfl
    refine ⟨_, run_beginRound hla (by rw [hrec]), ?_⟩
    have hlt : w.heap.size + 1 < Wa.heap.size := (Array.getElem?_eq_some_iff.1 hla).1
    have hl2 : (Wa.putObj (w.heap.size + 1) (.loop { rec .ready none with state := .busy })).heap[w.heap.size + 1]? = some (.loop { rec .ready none with state := .busy }) := World.putObj_heap_same hlt
    have hk2 : (Wa.putObj (w.heap.size + 1) (.loop { rec .ready none with state := .busy })).heap[w.heap.size]? = some (.deferred (some [])) := (World.putObj_heap_other (by omega)).trans hkka
    have hw2 : Kp W (Wa.putObj (w.heap.size + 1) (.loop { rec .ready none with state := .busy })) := hKt hkpa (hKb _ _ _ _ (by omega) hla rfl rfl)
    refine wpIn_mono (hbody _ pre x a1 _ ((hIa pre x).putObj _ hia (by omega) hla rfl)) ?_
    have fin : ∀ (jump : Option Code) (W3 : World), KeepsOthers (Wa.putObj (w.heap.size + 1) (.loop { rec .ready none with state := .busy })) W3 →
        (Instr.endRound (w.heap.size + 1) jump).run P W3 = .ok (.bool jump.isNone) (W3.putObj (w.heap.size + 1) (.loop (rec (if jump.isNone then .ready else .done) jump))) ∧
        W3.heap[w.heap.size + 1]? = some (.loop { rec .ready none with state := .busy }) ∧
        (W3.putObj (w.heap.size + 1) (.loop (rec (if jump.isNone then .ready else .done) jump))).heap[w.heap.size + 1]? = some (.loop (rec (if jump.isNone then .ready else .done) jump)) ∧
        (W3.putObj (w.heap.size + 1) (.loop (rec (if jump.isNone then .ready else .done) jump))).heap[w.heap.size]? = some (.deferred (some [])) := fun jump W3 hk3 => by
      have hl3 := hk3.same _ _ hl2 rfl
      have := run_endRound (P := P) jump hl3
      rw [hrec] at this ⊢
      exact ⟨this, by rw [hrec] at hl3; exact hl3, World.putObj_heap_same (Array.getElem?_eq_some_iff.1 hl3).1, (World.putObj_heap_other (by omega)).trans (hk3.same _ _ hk2 rfl)⟩
    rintro e a3 W3 hp
    cases e with
    | normal =>
      obtain ⟨hk3, hkp3, hi3⟩ := hp
      obtain ⟨hr, hl3, hl4, hk4⟩ := fin none W3 hk3
      exact ⟨_, _, hr, .inl ⟨rfl, ⟨hI.putObj _ hi3 (by omega) hl3 rfl, hl4, hk4⟩, hKt (hKt hw2 hkp3) (hKb _ _ _ _ (by omega) hl3 rfl rfl)⟩⟩
    | ret =>
      obtain ⟨hk3, hi3⟩ := hp
      obtain ⟨hr, hl3, hl4, hk4⟩ := fin (some .ret) W3 hk3
      exact ⟨_, _, hr, .inr ⟨rfl, .ret, (hIx _).putObj _ hi3 (by omega) hl3 rfl, hl4, hk4⟩⟩
    | exit id =>
      obtain ⟨hk3, hi3⟩ := hp
      obtain ⟨hr, hl3, hl4, hk4⟩ := fin (some (.exit id)) W3 hk3
      exact ⟨_, _, hr, .inr ⟨rfl, .exit id, (hIx _).putObj _ hi3 (by omega) hl3 rfl, hl4, hk4⟩⟩
    | goto t =>
      obtain ⟨hk3, hi3⟩ := hp
      obtain ⟨hr, hl3, hl4, hk4⟩ := fin (some (.goto t)) W3 hk3
      exact ⟨_, _, hr, .inr ⟨rfl, .goto t, (hIx _).putObj _ hi3 (by omega) hl3 rfl, hl4, hk4⟩⟩
    | panic ch => exact hp.elim
    | outgrown => exact hp.elim
  · rintro e W2 ⟨⟨v, rfl⟩, (⟨xs, hS, hi, hl, hk⟩ | ⟨pre, hSp, c, hi, hl, hk⟩)⟩
    · exact ⟨none, _, by have := run_endLoop (P := P) hl (by rw [hrec]; simp); rw [hrec] at this; exact this, hdone _ xs _ (Nat.le_refl _) hS (hI.putObj _ hi (by omega) hl rfl) ((World.putObj_heap_other (by omega)).trans hk)⟩
    · exact ⟨some c, _, by have := run_endLoop (P := P) hl (by rw [hrec]; simp); rw [hrec] at this; exact this, hstop _ c pre _ (Nat.le_refl _) hSp ((hIx c).putObj _ hi (by omega) hl rfl) ((World.putObj_heap_other (by omega)).trans hk)⟩
end Go.Proofs.YtjofmihdeblbmaaGreatDoor.Xa
/- slices.Backward over names, and scope's find: what they tell, in memory. -/
namespace Go.Proofs.YtjofmihdeblbmaaGreatDoor.Xa
open Go Go.RowKit Go.Shelf
attribute [local go_sem] Oper.semAt_some
/-- a name and its place -/
abbrev Kn := ByteArray × Int
/-- what has come when k rounds are over -/
def cameK {α : Type} (f : Nat → α) (k : Nat) : List α := (List.range k).map f
theorem cameK_succ {α : Type} (f : Nat → α) (k : Nat) : cameK f (k + 1) = cameK f k ++ [f k] := by simp [cameK, List.range_succ]
theorem cameK_length {α : Type} (f : Nat → α) (k : Nat) : (cameK f k).length = k := by simp [cameK]
def back (ns : List Kn) (j : Nat) : Int × Kn := (((ns.length - 1 - j : Nat) : Int), ns[ns.length - 1 - j]?.getD (⟨#[]⟩, 0))
def encB (x : Int × Kn) : Array Value := #[.int .i64 x.1, .agg #[.string x.2.1, .int .i64 x.2.2]]
def NamesAt (n₀ : Nat) (W : World) (sv : Value) (ns : List Kn) : Prop :=
  (sv = .slice none 0 0 ∧ ns = []) ∨ ∃ b off cap, sv = .slice (some ⟨b, off, none⟩) ns.length cap ∧ b < n₀ ∧ ∀ j, j < ns.length → W.cell? ⟨b, off + j * 2, none⟩ = some (.string (ns[j]?.getD (⟨#[]⟩, 0)).1) ∧ W.cell? ⟨b, off + j * 2 + 1, none⟩ = some (.int .i64 (ns[j]?.getD (⟨#[]⟩, 0)).2)
theorem NamesAt.below {n₀ : Nat} {A B : World} (h : Below n₀ A B) {sv : Value} {ns : List Kn} : NamesAt n₀ A sv ns → NamesAt n₀ B sv ns
  | .inl e => .inl e
  | .inr ⟨b, off, cap, e, hb, hc⟩ => .inr ⟨b, off, cap, e, hb, fun j hj => ⟨(h.cell (p := ⟨b, off + j * 2, none⟩) hb).trans (hc j hj).1, (h.cell (p := ⟨b, off + j * 2 + 1, none⟩) hb).trans (hc j hj).2⟩⟩
set_option maxRecDepth 100000 in
set_option maxHeartbeats 2000000 in
theorem back1_in (F : Fence) (n : Nat) (h7 : F.fn 194) (hro : F.round = none) (hn : 1 ≤ n) (l Bs n₀ b off cap : Nat) (ns : List Kn) (hreach : ns.length ≤ 1000000) (hb : b < n₀) (J Jx : List (Int × Kn) → World → Prop)
    (hY : ∀ pre x W, J pre W → pre.length < ns.length → YieldAt F (n - 1) Tryz.prog l (encB x) W fun e W' =>
      (e = .returned (.bool true) ∧ J (pre ++ [x]) W' ∧ Below n₀ W W') ∨ (e = .returned (.bool false) ∧ Jx (pre ++ [x]) W'))
    (W : World) (hBs : W.cell? ⟨Bs, 0, none⟩ = some (.slice (some ⟨b, off, none⟩) ns.length cap)) (hBl : Bs < n₀)
    (hc : ∀ j, j < ns.length → W.cell? ⟨b, off + j * 2, none⟩ = some (.string (ns[j]?.getD (⟨#[]⟩, 0)).1) ∧ W.cell? ⟨b, off + j * 2 + 1, none⟩ = some (.int .i64 (ns[j]?.getD (⟨#[]⟩, 0)).2)) (h0 : J [] W) :
    CallsIn F n Tryz.prog 194 #[.func (.yield l) #[] #[], .pointer (some ⟨Bs, 0, none⟩)] W fun e W' => (∃ v, e = .returned v) ∧
      ((∃ ys, ys = cameK (back ns) ns.length ∧ J ys W') ∨ (∃ pre, (∃ k, k ≤ ns.length ∧ pre = cameK (back ns) k) ∧ Jx pre W')) := by
  refine callsIn_of_wp Tryz.func194 rfl h7 ?_ hro
  simp only [Tryz.ntmps194, List.size_toArray, List.length_cons, List.length_nil, Nat.reduceAdd, Nat.reduceSub, Array.replicate_succ, Array.replicate_zero, List.push_toArray, List.append_toArray, List.nil_append, List.cons_append]
  gi_wp2
  gi_loopw [3] (fun i wr => ∃ k : Nat, k ≤ ns.length ∧ i = .int .i64 (((ns.length : Nat) : Int) - 1 - k) ∧ J (cameK (back ns) k) wr ∧ Below n₀ W wr)
    (fun i _ => (intOf i + 1).toNat)
  case atStart => exact ⟨0, Nat.zero_le _, by simp, h0, Below.refl _ _⟩
  case round =>
    obtain ⟨k, hk, rfl, hJs, hnx⟩ := hrel
    have hS : wr.cell? ⟨Bs, 0, none⟩ = some (.slice (some ⟨b, off, none⟩) ns.length cap) := (hnx.cell (p := ⟨Bs, 0, none⟩) hBl).trans hBs
    by_cases hlt : k < ns.length
    · have hj : ns.length - 1 - k < ns.length := by omega
      obtain ⟨c1, c2⟩ := hc _ hj
      have c1' := (hnx.cell (p := ⟨b, off + (ns.length - 1 - k) * 2, none⟩) hb).trans c1
      have c2' := (hnx.cell (p := ⟨b, off + (ns.length - 1 - k) * 2 + 1, none⟩) hb).trans c2
      obtain ⟨fn, tmps, assign, body, hy, hR⟩ := hY _ (back ns k) wr hJs (by rw [cameK_length]; exact hlt)
      simp [back, encB, hj] at hy
      have hi : ((ns.length : Nat) : Int) - 1 - k = ((ns.length - 1 - k : Nat) : Int) := by omega
      rw [hi]
      gi_wp2
      refine hR.mono ?_
      rintro e W3 (⟨rfl, hJ3, hk3⟩ | ⟨rfl, hJx3⟩)
      · gi_wp2
        go_roundw
        case rel => exact ⟨k + 1, by omega, by simp <;> omega, by rw [cameK_succ]; exact hJ3, hnx.trans hk3⟩
        case measure => first | (simp [intOf]; done) | (simp [intOf]; omega)
      · gi_wp2
        refine bodyPost_ret (results_none rfl _ _ _) rfl ?_
        exact ⟨⟨_, rfl⟩, .inr ⟨_, ⟨k + 1, by omega, (cameK_succ _ _).symm⟩, hJx3⟩⟩
    · obtain rfl : k = ns.length := by omega
      have hi : ((ns.length : Nat) : Int) - 1 - ns.length = -1 := by omega
      rw [hi]
      gi_wp2
      go_end0
      exact ⟨⟨_, rfl⟩, .inl ⟨_, rfl, hJs⟩⟩
set_option maxRecDepth 100000 in
set_option maxHeartbeats 1000000 in
theorem back1_nil_in (F : Fence) (n : Nat) (h7 : F.fn 194) (hro : F.round = none) (l Bs : Nat) (J : List (Int × Kn) → World → Prop) (W : World) (hBs : W.cell? ⟨Bs, 0, none⟩ = some (.slice none 0 0)) (h0 : J [] W) :
    CallsIn F n Tryz.prog 194 #[.func (.yield l) #[] #[], .pointer (some ⟨Bs, 0, none⟩)] W fun e W' => (∃ v, e = .returned v) ∧ J [] W' := by
  refine callsIn_of_wp Tryz.func194 rfl h7 ?_ hro
  simp only [Tryz.ntmps194, List.size_toArray, List.length_cons, List.length_nil, Nat.reduceAdd, Nat.reduceSub, Array.replicate_succ, Array.replicate_zero, List.push_toArray, List.append_toArray, List.nil_append, List.cons_append]
  gi_wp2
  gi_loopw [3] (fun i wr => i = .int .i64 (-1) ∧ J [] wr) (fun _ _ => 0)
  case atStart => exact ⟨by simp, h0⟩
  case round =>
    obtain ⟨rfl, hJs⟩ := hrel
    gi_wp2
    go_end0
    exact ⟨⟨_, rfl⟩, hJs⟩
set_option maxHeartbeats 1000000 in
theorem back_in (F : Fence) (n : Nat) (h5 : F.fn 152) (hro : F.round = none) (a : Option Addr) (len cap : Nat) (w : World) :
    CallsIn F n Tryz.prog 152 #[.slice a len cap] w fun e w' => e = .returned (.func (.func 194) #[] #[.pointer (some ⟨w.heap.size, 0, none⟩)]) ∧ w' = w.alloc (.cells #[.slice a len cap] 113) := by
  refine callsIn_of_wp Tryz.func152 rfl h5 ?_ hro
  simp only [Tryz.ntmps152, List.size_toArray, List.length_cons, List.length_nil, Nat.reduceAdd, Nat.reduceSub, Array.replicate_succ, Array.replicate_zero, List.push_toArray, List.append_toArray, List.nil_append, List.cons_append]
  gi_wp2
  go_ret
  exact ⟨rfl, rfl⟩
theorem back_stops (F : Fence) (n : Nat) (h7 : F.fn 194) (hro : F.round = none) (hn : 1 ≤ n) (Bs n₀ : Nat) (sv : Value) (ns : List Kn) (hreach : ns.length ≤ 1000000) (w : World) (hBs : Bs < n₀) (hn₀ : n₀ ≤ w.heap.size)
    (hc : w.cell? ⟨Bs, 0, none⟩ = some sv) (hI : NamesAt n₀ w sv ns) :
    SeqStopsK F n Tryz.prog 194 #[.pointer (some ⟨Bs, 0, none⟩)] encB (Below n₀) (fun ys => ys = cameK (back ns) ns.length) (fun pre => ∃ k, k ≤ ns.length ∧ pre = cameK (back ns) k) ns.length w := fun l J Jx W hW _ _ hY h0 => by
  have hc' := (hW.cell (p := ⟨Bs, 0, none⟩) (Nat.lt_of_lt_of_le hBs hn₀)).trans hc
  rcases hI.below (hW.mono hn₀) with ⟨rfl, rfl⟩ | ⟨b, off, cap, rfl, hb, hcs⟩
  · exact (back1_nil_in F n h7 hro l Bs J W hc' h0).mono fun e W' ⟨he, hj⟩ => ⟨he, .inl ⟨_, rfl, hj⟩⟩
  · refine (back1_in F n h7 hro hn l Bs n₀ b off cap ns hreach hb J Jx hY W hc' hBs hcs h0).mono ?_
    rintro e W' ⟨he, ⟨ys, rfl, hj⟩ | ⟨pre, ⟨k, hk, rfl⟩, hj⟩⟩
    · exact ⟨he, .inl ⟨_, rfl, hj⟩⟩
    · exact ⟨he, .inr ⟨_, ⟨k, hk, rfl⟩, hj⟩⟩
theorem four (w : World) (o1 o2 o3 o4 : Obj) : ((((w.alloc o1).alloc o2).alloc o3).alloc o4).heap[w.heap.size]? = some o1 ∧ ((((w.alloc o1).alloc o2).alloc o3).alloc o4).heap[w.heap.size + 1]? = some o2 ∧
    ((((w.alloc o1).alloc o2).alloc o3).alloc o4).heap[w.heap.size + 2]? = some o3 ∧ ((((w.alloc o1).alloc o2).alloc o3).alloc o4).heap[w.heap.size + 3]? = some o4 := by
  refine ⟨?_, ?_, ?_, ?_⟩
  · show ((((w.heap.push o1).push o2).push o3).push o4)[w.heap.size]? = _
    simp only [Array.getElem?_push, Array.size_push]
    rw [if_neg (by omega), if_neg (by omega), if_neg (by omega), if_pos trivial]
  · show ((((w.heap.push o1).push o2).push o3).push o4)[w.heap.size + 1]? = _
    simp only [Array.getElem?_push, Array.size_push]
    rw [if_neg (by omega), if_neg (by omega), if_pos trivial]
  · show ((((w.heap.push o1).push o2).push o3).push o4)[w.heap.size + 2]? = _
    simp only [Array.getElem?_push, Array.size_push]
    rw [if_neg (by omega), if_pos trivial]
  · show ((((w.heap.push o1).push o2).push o3).push o4)[w.heap.size + 3]? = _
    simp only [Array.getElem?_push, Array.size_push]
    rw [if_pos trivial]
def findR (ns : List Kn) (nm : ByteArray) : Int × Bool := match ns.reverse.find? (fun p => p.1.data.toList == nm.data.toList) with
  | some p => (p.2, true)
  | none => (0, false)
def NoHit (nm : ByteArray) (pre : List (Int × Kn)) : Prop := ∀ p ∈ pre, (p.2.1.toList == nm.toList) = false
def LastHit (nm : ByteArray) (pre : List (Int × Kn)) (b : Int) : Prop := ∃ ini last, pre = ini ++ [last] ∧ NoHit nm ini ∧ (last.2.1.toList == nm.toList) = true ∧ last.2.2 = b
theorem came_back (ns : List Kn) : ∀ k, k ≤ ns.length → (cameK (back ns) k).map (fun p => p.2) = ns.reverse.take k
  | 0, _ => rfl
  | k + 1, hk => by
    rw [cameK_succ, List.map_append, came_back ns k (by omega), List.take_add_one]
    congr 1
    have : k < ns.length := hk
    rw [List.getElem?_reverse this]
    have h2 : ns.length - 1 - k < ns.length := by omega
    simp [back, h2]
theorem findR_none {ns : List Kn} {nm : ByteArray} (h : NoHit nm (cameK (back ns) ns.length)) : findR ns nm = (0, false) := by
  have h1 := came_back ns ns.length (Nat.le_refl _)
  rw [List.take_of_length_le (by simp)] at h1
  unfold findR
  rw [← h1, List.find?_eq_none.2]
  intro p hp
  obtain ⟨q, hq, rfl⟩ := List.mem_map.1 hp
  rw [← ByteArray.toList_eq, ← ByteArray.toList_eq, h q hq]; simp
theorem findR_some {ns : List Kn} {nm : ByteArray} {k : Nat} {b : Int} (hk : k ≤ ns.length) (h : LastHit nm (cameK (back ns) k) b) : findR ns nm = (b, true) := by
  obtain ⟨ini, last, h1, h2, h3, rfl⟩ := h
  have h4 := came_back ns k hk
  rw [h1, List.map_append] at h4
  unfold findR
  rw [← List.take_append_drop k ns.reverse, ← h4, List.append_assoc, List.find?_append, List.find?_eq_none.2, List.find?_append]
  · have h3e : last.2.1.data = nm.data := by simpa [ByteArray.toList_eq] using h3
    simp [h3e]
  · intro p hp
    obtain ⟨q, hq, rfl⟩ := List.mem_map.1 hp
    rw [← ByteArray.toList_eq, ← ByteArray.toList_eq, h2 q hq]; simp
theorem cell_al {W : World} {p : Addr} {v : Value} (h : W.cell? p = some v) (o : Obj) : (W.alloc o).cell? p = some v ∧ (W.alloc o).frozen? p = W.frozen? p := by
  have hlt : p.block < W.heap.size := by
    rcases Nat.lt_or_ge p.block W.heap.size with g | g
    · exact g
    · simp [World.cell?, Array.getElem?_eq_none g] at h
  have hb := Below.heap_alloc W o p.block hlt
  exact ⟨(World.cell?_of_block hb).trans h, World.frozen?_of_block hb⟩
set_option maxRecDepth 100000 in
set_option maxHeartbeats 2000000 in
theorem find_in (F : Fence) (n : Nat) (h4 : F.fn 102) (h6 : F.fn 152) (h8 : F.fn 194) (hro : F.round = none) (hn : 3 ≤ n)
    (cb : Nat) (nm : ByteArray) (a : Option Addr) (len cap : Nat) (ns : List Kn) (hreach : ns.length ≤ 1000000) (w : World) (hcb : cb < w.heap.size) (hsv : w.cell? ⟨cb, 2, none⟩ = some (.slice a len cap)) (hI : NamesAt w.heap.size w (.slice a len cap) ns) :
    CallsIn F n Tryz.prog 102 #[.pointer (some ⟨cb, 0, none⟩), .string nm] w fun e W' => e = .returned (.tuple #[.int .i64 (findR ns nm).1, .bool (findR ns nm).2]) ∧ Below w.heap.size w W' := by
  have h1 : 1 ≤ n := by omega
  refine callsIn_of_wp_marks Tryz.func102 rfl h4 ?_ hro
  simp only [Tryz.ntmps102, List.size_toArray, List.length_cons, List.length_nil, Nat.reduceAdd, Nat.reduceSub, Array.replicate_succ, Array.replicate_zero, List.push_toArray, List.append_toArray, List.nil_append, List.cons_append]
  have hB3 : Below w.heap.size w (((w.alloc (.cells #[.string nm] 9)).alloc (.cells #[.int .i64 0] 3)).alloc (.cells #[.bool false] 4)) := (((Below.refl _ w).alloc (Nat.le_refl _) _).alloc (by simp) _).alloc (by simp; omega) _
  have hsv3 : (((w.alloc (.cells #[.string nm] 9)).alloc (.cells #[.int .i64 0] 3)).alloc (.cells #[.bool false] 4)).cell? ⟨cb, 2, none⟩ = some (.slice a len cap) := (hB3.cell (p := ⟨cb, 2, none⟩) hcb).trans hsv
  gi_wp2_with (gi_at_call 152; refine (back_in F (n - 1) h6 hro _ _ _ _).mono ?_; rintro e w' ⟨rfl, rfl⟩)
  have hs4 : ((((w.alloc (.cells #[.string nm] 9)).alloc (.cells #[.int .i64 0] 3)).alloc (.cells #[.bool false] 4)).alloc (.cells #[.slice a len cap] 113)).heap.size = w.heap.size + 4 := by simp
  have hB4 : Below w.heap.size w ((((w.alloc (.cells #[.string nm] 9)).alloc (.cells #[.int .i64 0] 3)).alloc (.cells #[.bool false] 4)).alloc (.cells #[.slice a len cap] 113)) := hB3.alloc (by simp; omega) _
  obtain ⟨g0, g1, g2, g3⟩ := four w (.cells #[.string nm] 9) (.cells #[.int .i64 0] 3) (.cells #[.bool false] 4) (.cells #[.slice a len cap] 113)
  have e3 : w.heap.size + 1 + 1 + 1 = w.heap.size + 3 := rfl
  have e2 : w.heap.size + 1 + 1 = w.heap.size + 2 := rfl
  simp only [e3, e2]
  generalize ((((w.alloc (.cells #[.string nm] 9)).alloc (.cells #[.int .i64 0] 3)).alloc (.cells #[.bool false] 4)).alloc (.cells #[.slice a len cap] 113)) = W4 at hs4 hB4 g0 g1 g2 g3 ⊢
  clear hB3 hsv3
  have c0 : W4.cell? ⟨w.heap.size, 0, none⟩ = some (.string nm) := by simp [World.cell?, g0]
  have c1 : W4.cell? ⟨w.heap.size + 1, 0, none⟩ = some (.int .i64 0) := by simp [World.cell?, g1]
  have c2 : W4.cell? ⟨w.heap.size + 2, 0, none⟩ = some (.bool false) := by simp [World.cell?, g2]
  have c3 : W4.cell? ⟨w.heap.size + 3, 0, none⟩ = some (.slice a len cap) := by simp [World.cell?, g3]
  have f1 : W4.frozen? ⟨w.heap.size + 1, 0, none⟩ = false := by simp [World.frozen?, g1]
  have f2 : W4.frozen? ⟨w.heap.size + 2, 0, none⟩ = false := by simp [World.frozen?, g2]
  have hI4 : NamesAt W4.heap.size W4 (.slice a len cap) ns := by
    rcases hI with h | ⟨b, off, cap', e, hb, hc⟩
    · exact .inl h
    · exact .inr ⟨b, off, cap', e, by omega, fun j hj => ⟨(hB4.cell (p := ⟨b, off + j * 2, none⟩) hb).trans (hc j hj).1, (hB4.cell (p := ⟨b, off + j * 2 + 1, none⟩) hb).trans (hc j hj).2⟩⟩
  refine range_box hro h1 (gf := 194) (lb := #[.pointer (some ⟨w.heap.size + 3, 0, none⟩)]) rfl h8 (enters_of Tryz.func194 (by kernel_rfl) rfl)
    (back_stops F (n - 1) h8 hro (by omega) (w.heap.size + 3) W4.heap.size _ ns hreach W4 (by omega) (Nat.le_refl _) c3 hI4) belowK_t (belowK_b (Nat.le_refl _)) (Below.refl _ _) (fun _ => rfl)
    (fun pre W => (NoHit nm pre ∧ W.cell? ⟨w.heap.size, 0, none⟩ = some (.string nm) ∧ W.cell? ⟨w.heap.size + 1, 0, none⟩ = some (.int .i64 0) ∧ W.frozen? ⟨w.heap.size + 1, 0, none⟩ = false ∧ W.cell? ⟨w.heap.size + 2, 0, none⟩ = some (.bool false) ∧ W.frozen? ⟨w.heap.size + 2, 0, none⟩ = false ∧ w.heap.size + 4 ≤ W.heap.size) ∧ Below w.heap.size w W)
    (fun pre x a1 W => (NoHit nm pre ∧ W.cell? ⟨w.heap.size, 0, none⟩ = some (.string nm) ∧ W.cell? ⟨w.heap.size + 1, 0, none⟩ = some (.int .i64 0) ∧ W.frozen? ⟨w.heap.size + 1, 0, none⟩ = false ∧ W.cell? ⟨w.heap.size + 2, 0, none⟩ = some (.bool false) ∧ W.frozen? ⟨w.heap.size + 2, 0, none⟩ = false ∧ w.heap.size + 4 ≤ W.heap.size ∧
      ∃ q, W.cell? ⟨q, 0, none⟩ = some (.string x.2.1) ∧ W.cell? ⟨q, 1, none⟩ = some (.int .i64 x.2.2) ∧
        a1 = { tmps := #[.pointer (some ⟨cb, 0, none⟩), .string nm, undef, .pointer (some ⟨w.heap.size, 0, none⟩), .pointer (some ⟨w.heap.size + 1, 0, none⟩), .pointer (some ⟨w.heap.size + 2, 0, none⟩), undef, .pointer (some ⟨q, 0, none⟩), .pointer (some ⟨cb, 0, none⟩), .pointer (some ⟨cb, 0, none⟩), .pointer (some ⟨cb, 2, none⟩), .slice a len cap, .func (.func 194) #[] #[.pointer (some ⟨w.heap.size + 3, 0, none⟩)], .int .i64 x.1, .agg #[.string x.2.1, .int .i64 x.2.2], undef, undef, undef, undef, undef, undef], defers := [] }) ∧ Below w.heap.size w W)
    (fun c pre W => (c = .ret ∧ ∃ b, LastHit nm pre b ∧ W.cell? ⟨w.heap.size + 1, 0, none⟩ = some (.int .i64 b) ∧ W.cell? ⟨w.heap.size + 2, 0, none⟩ = some (.bool true)) ∧ Below w.heap.size w W)
    (OwnFrom.and (Own.from (fun s A B row hs hg hr => by
      obtain ⟨q0, q1, q2, q3, q4, q5, q6⟩ := hs
      exact ⟨q0, cell_kept q1 hg hr, cell_kept q2 hg hr, (frozen_kept q2 hg hr).trans q3, cell_kept q4 hg hr, (frozen_kept q4 hg hr).trans q5, Nat.le_trans q6 hg.size⟩) _) (ownFrom_below (Nat.le_refl _) (by omega)))
    (fun pre x => OwnFrom.and (Own.from (fun s A B row hs hg hr => by
      obtain ⟨q0, q1, q2, q3, q4, q5, q9, q, q6, q7, q8⟩ := hs
      exact ⟨q0, cell_kept q1 hg hr, cell_kept q2 hg hr, (frozen_kept q2 hg hr).trans q3, cell_kept q4 hg hr, (frozen_kept q4 hg hr).trans q5, Nat.le_trans q9 hg.size, q, cell_kept q6 hg hr, cell_kept q7 hg hr, q8⟩) _) (ownFrom_below (Nat.le_refl _) (by omega)))
    (fun c => OwnFrom.and (Own.from (fun s A B row hs hg hr => by
      obtain ⟨q0, b, q1, q4, q5⟩ := hs
      exact ⟨q0, b, q1, cell_kept q4 hg hr, cell_kept q5 hg hr⟩) _) (ownFrom_below (Nat.le_refl _) (by omega)))
    ⟨⟨by simp [NoHit], c0, c1, f1, c2, f2, by omega⟩, hB4⟩ ?assign ?body ?done ?stop
  case assign =>
    rintro l pre x W ⟨⟨q0, q1, q2, q3, q4, q5, q6⟩, hB⟩ hlen
    unfold encB
    gi_wp2
    exact ⟨KeepsOthers.alloc W _, (Below.refl _ W).alloc (by omega) _, ⟨(cell_al q1 _).1, (cell_al q2 _).1, (cell_al q2 _).2.trans q3, (cell_al q4 _).1, (cell_al q4 _).2.trans q5, by omega⟩, hB.alloc (by omega) _⟩
  case body =>
    rintro l pre x a1 W ⟨⟨q0, q1, q2, q3, q4, q5, q9, q, q6, q7, rfl⟩, hB⟩
    gi_wp2
    · have hx : (x.2.1.toList == nm.toList) = true := by assumption
      exact ⟨(KeepsOthers.setCell _ _ _).trans (KeepsOthers.setCell _ _ _), ⟨rfl, x.2.2, ⟨pre, x, rfl, q0, hx, rfl⟩, (World.cell?_setCell_other _ _ _ _ (by simp)).trans (World.cell?_setCell_same' _ _ _ (by rw [q2]; rfl)), World.cell?_setCell_same' _ _ _ (by rw [World.cell?_setCell_other _ _ _ _ (by simp), q4]; rfl)⟩,
        (hB.setCell (p := ⟨w.heap.size + 1, 0, none⟩) (Nat.le_succ _) _).setCell (p := ⟨w.heap.size + 2, 0, none⟩) (by simp) _⟩
    · have hx : (x.2.1.toList == nm.toList) = false := by first | assumption | (rename_i hq; simpa using hq)
      exact ⟨KeepsOthers.refl _, Below.refl _ _, ⟨fun p hp => (List.mem_append.1 hp).elim (q0 p) (fun e => by rw [List.mem_singleton.1 e]; exact hx), q1, q2, q3, q4, q5, q9⟩, hB⟩
  case done =>
    rintro D ys W hD rfl ⟨⟨q0, q1, q2, q3, q4, q5, q6⟩, hB⟩ hK
    gi_wp2
    have hK' := ((KeepsOthers.setCell W ⟨w.heap.size + 1, 0, none⟩ (.int .i64 0)).trans (KeepsOthers.setCell _ ⟨w.heap.size + 2, 0, none⟩ (.bool false))).same D _ hK rfl
    refine ⟨by simp, .inl ⟨_, _, rfl, run_takeDeferred hK', ?_⟩⟩
    have d1 : ((W.setCell ⟨w.heap.size + 1, 0, none⟩ (.int .i64 0)).setCell ⟨w.heap.size + 2, 0, none⟩ (.bool false)).cell? ⟨w.heap.size + 1, 0, none⟩ = some (.int .i64 0) := (World.cell?_setCell_other _ _ _ _ (by simp)).trans (World.cell?_setCell_same' _ _ _ (by rw [q2]; rfl))
    have d2 : ((W.setCell ⟨w.heap.size + 1, 0, none⟩ (.int .i64 0)).setCell ⟨w.heap.size + 2, 0, none⟩ (.bool false)).cell? ⟨w.heap.size + 2, 0, none⟩ = some (.bool false) := World.cell?_setCell_same' _ _ _ (by rw [World.cell?_setCell_other _ _ _ _ (by simp), q4]; rfl)
    have c1' := cell_kept d1 (grownBy_putObj' _ D (.deferred none)) (fun r e => by cases e; exact ⟨_, hK', rfl⟩)
    have c2' := cell_kept d2 (grownBy_putObj' _ D (.deferred none)) (fun r e => by cases e; exact ⟨_, hK', rfl⟩)
    refine ⟨.tuple #[.int .i64 0, .bool false], ?_, by rw [findR_none q0], ((hB.setCell (p := ⟨w.heap.size + 1, 0, none⟩) (Nat.le_succ _) _).setCell (p := ⟨w.heap.size + 2, 0, none⟩) (by simp) _).trans (belowK_b (w := w) (Nat.le_refl _) _ D _ _ (by omega) hK' rfl rfl)⟩
    simp [results, Tryz.f102, go_sem, c1', c2']
  case stop =>
    rintro D c pre W hD ⟨k, hk, rfl⟩ ⟨⟨rfl, b, q1, q2, q3⟩, hB⟩ hK
    gi_wp2
    have c1' := cell_kept q2 (grownBy_putObj' _ D (.deferred none)) (fun r e => by cases e; exact ⟨_, hK, rfl⟩)
    have c2' := cell_kept q3 (grownBy_putObj' _ D (.deferred none)) (fun r e => by cases e; exact ⟨_, hK, rfl⟩)
    refine ⟨by simp, .inl ⟨_, _, rfl, run_takeDeferred hK, ?_⟩⟩
    refine ⟨.tuple #[.int .i64 b, .bool true], ?_, by rw [findR_some hk q1], hB.trans (belowK_b (w := w) (Nat.le_refl _) W D _ _ (by omega) hK rfl rfl)⟩
    simp [results, Tryz.f102, go_sem, c1', c2']
end Go.Proofs.YtjofmihdeblbmaaGreatDoor.Xa

/- strings.Builder's WriteString and Grow, strings.Join of two texts or more, at this program's copyCheck (whose panic the cut refuses). -/
import Derived.Test.YtjofmihdeblbmaaGreatDoorBuild
import Derived.Test.YtjofmihdeblbmaaGreatDoorShelf
import Derived.LoopTactic
/- strings.Builder's WriteString and Grow, and strings.Join of two texts or more, at this program's copyCheck (whose panic the cut refuses). -/
namespace Go.Proofs.YtjofmihdeblbmaaGreatDoor
open Go.Shelf Go.RowKit
theorem sizeByte : (Tryz.prog.info? 5).map (·.size) = some 1 := by kernel_rfl
theorem block_lt {w : World} {b : Nat} {o : Obj} (h : w.heap[b]? = some o) : b < w.heap.size := by
  rcases Nat.lt_or_ge b w.heap.size with g | g
  · exact g
  · simp [Array.getElem?_eq_none g] at h
/-- a builder of the walk's own, as it stands behind a write -/
abbrev Bld (B b : Nat) (bs : List Value) (w : World) : Prop := Lib.BuilderAt 121 5 B b (.pointer (some ⟨b, 0, none⟩)) bs w
set_option maxHeartbeats 2000000 in
set_option maxRecDepth 100000 in
theorem writeString_calls (B b : Nat) (bs : List Value) (s : ByteArray) (w : World) (h : Lib.IsBuilder 121 5 B b bs w) (hlen : bs.length + s.size ≤ 140737488355328) (hBw : B ≤ w.heap.size) :
    Calls Tryz.prog 61 #[.pointer (some ⟨b, 0, none⟩), .string s] w fun e w' => e = .returned (.tuple #[.int .i64 s.size, .nilIface]) ∧ Bld B b (bs ++ Lib.strCells s) w' ∧ Below B w w' := by
  obtain ⟨i0, hi, hz0, hz1, hz2⟩ := info_parts infoByte
  go_enter Tryz.func61, Tryz.ntmps61
  go_wp2_with (go_at_call 111; refine (copyCheck_calls B b bs _ h).mono ?_)
  rintro e w1 ⟨rfl, h1, hb1⟩
  obtain ⟨hB, v, hbk, hown, hne⟩ := h1
  have hsz := hb1.size
  have hlt := block_lt hbk
  have c0 : w1.cell? ⟨b, 0, none⟩ = some (.pointer (some ⟨b, 0, none⟩)) := by rw [Lib.cell_of_heap hbk]; rfl
  have c1 : w1.cell? ⟨b, 1, none⟩ = some v := by rw [Lib.cell_of_heap hbk]; rfl
  go_wp2_with (at_builtin; refine Lib.wpList_append_own_string _ rfl _ _ 22 9 rfl B 5 i0 Tryz.underlying22 Tryz.underlying9 hi hz0 hz1 hz2 _ _ _ rfl hown s rfl (by unfold maxLen; omega) (by omega) (by omega) ?_)
  intro v' w2 hown' hgrow _
  have hb2 : w2.heap[b]? = some (.cells #[.pointer (some ⟨b, 0, none⟩), v] 121 (0, 0)) := (hgrow.block b hlt (fun e => hne e.symm)).trans hbk
  have d0 : w2.cell? ⟨b, 0, none⟩ = some (.pointer (some ⟨b, 0, none⟩)) := by rw [Lib.cell_of_heap hb2]; rfl
  have d1 : w2.cell? ⟨b, 1, none⟩ = some v := by rw [Lib.cell_of_heap hb2]; rfl
  have f1 : w2.frozen? ⟨b, 1, none⟩ = false := Lib.frozen_of_heap hb2 1
  obtain ⟨ao, k, cap, rfl⟩ : ∃ ao k cap, v' = .slice ao k cap := by
    rcases hown'.2 with ⟨hv, _⟩ | ⟨g, cap, cur, hv, _⟩ <;> exact ⟨_, _, _, hv⟩
  go_wp2
  go_ret2
  exact ⟨rfl, Lib.BuilderAt.put (T := 121) (e := 5) hB hb2 (bs' := bs ++ Lib.strCells s) (by simpa [Lib.strCells_length] using hown') (by decide), (hb1.grown hgrow (by omega) (fun k hk => (hown.lt k hk).1)).setCell (p := ⟨b, 1, none⟩) hB _⟩
set_option maxHeartbeats 4000000 in
set_option maxRecDepth 1000000 in
theorem grow_calls (B b n : Nat) (w : World) (hB : B ≤ b) (hbk : w.heap[b]? = some (.cells #[.pointer (some ⟨b, 0, none⟩), .slice none 0 0] 121 (0, 0))) (hBw : B ≤ w.heap.size) (hn : n ≤ 281474976710656) :
    Calls Tryz.prog 112 #[.pointer (some ⟨b, 0, none⟩), .int .i64 n] w fun e w' => e = .returned (.tuple #[]) ∧ Bld B b [] w' ∧ Below B w w' := by
  have hlt := block_lt hbk
  obtain ⟨cs, hrun, hle, hmax⟩ := Lib.run_makeNoZero (P := Tryz.prog) w.drew #[3] 22 5 Tryz.underlying22 n hn
  have hz : IntKind.i64.wrap (IntKind.i64.wrap 0 + (n : Int)) = n := by
    rw [IntKind.wrap_i64, IntKind.wrap_i64]
    omega
  have hcall : (callFunc 165 #[.int .i64 (IntKind.i64.wrap (IntKind.i64.wrap 0 + (n : Int)))]).run Tryz.prog w.drew = .ok (.value (.slice (some ⟨w.drew.heap.size, 0, none⟩) n cs.size)) (w.drew.drew.drew.alloc (.cells cs 5)) := by
    rw [hz, run_callFunc_extern Tryz.func165 (by kernel_rfl) (by kernel_rfl) (by kernel_rfl) (e := Extern.BytealgMakeNoZero.makeNoZero #[3] #[22]) (by kernel_rfl), hrun]
    rfl
  have hb' : (w.alloc (.cells cs 5)).heap[b]? = some (.cells #[.pointer (some ⟨b, 0, none⟩), .slice none 0 0] 121 (0, 0)) := (Lib.alloc_old w _ b hlt).trans hbk
  have hbd : w.drew.heap[b]? = some (.cells #[.pointer (some ⟨b, 0, none⟩), .slice none 0 0] 121 (0, 0)) := hbk
  have c1 : w.drew.cell? ⟨b, 1, none⟩ = some (.slice none 0 0) := by rw [Lib.cell_of_heap hbd]; rfl
  have c2 : (w.alloc (.cells cs 5)).cell? ⟨b, 1, none⟩ = some (.slice none 0 0) := by rw [Lib.cell_of_heap hb']; rfl
  have f2 : (w.alloc (.cells cs 5)).frozen? ⟨b, 1, none⟩ = false := Lib.frozen_of_heap hb' 1
  have hcopy : ∀ W : World, (Builtin.copy_ #[22, 22] 3 #[.slice (some ⟨w.heap.size, 0, none⟩) 0 cs.size, .slice none 0 0]).run Tryz.prog W = .ok (goInt 0) W :=
    fun W => run_copy_none W 22 22 3 5 _ _ 0 cs.size 0 0 Tryz.underlying22 sizeByte rfl
  have fin := Lib.grown_fresh (T := 121) (e := 5) (cs := cs) hB hbk hBw (hmax (by unfold maxLen; omega)) (by decide)
  rw [World.setCell_alloc_past _ b 1 _ hlt] at fin
  clear hz
  have mixed : Tryz.prog.follows .mixedOrders = true := by kernel_rfl
  go_enter Tryz.func112, Tryz.ntmps112
  go_wp2
  go_region_o
  all_goals (go_wp2; go_end0; exact ⟨rfl, fin⟩)
set_option maxHeartbeats 4000000 in
set_option maxRecDepth 1000000 in
theorem growFresh_calls (B b n : Nat) (w : World) (hB : B ≤ b) (hbk : w.heap[b]? = some (.cells #[.pointer none, .slice none 0 0] 121 (0, 0))) (hBw : B ≤ w.heap.size) (hn : n ≤ 281474976710656) :
    Calls Tryz.prog 60 #[.pointer (some ⟨b, 0, none⟩), .int .i64 n] w fun e w' => e = .returned (.tuple #[]) ∧ Bld B b [] w' ∧ Below B w w' := by
  have hset : (w.setCell ⟨b, 0, none⟩ (.pointer (some ⟨b, 0, none⟩))).heap[b]? = some (.cells #[.pointer (some ⟨b, 0, none⟩), .slice none 0 0] 121 (0, 0)) := by
    simp [World.setCell, Array.getElem?_modify, hbk]
  have c1 : (w.setCell ⟨b, 0, none⟩ (.pointer (some ⟨b, 0, none⟩))).cell? ⟨b, 1, none⟩ = some (.slice none 0 0) := by rw [Lib.cell_of_heap hset]; rfl
  have c1' : (w.setCell ⟨b, 0, none⟩ (.pointer (some ⟨b, 0, none⟩))).drew.cell? ⟨b, 1, none⟩ = some (.slice none 0 0) := c1
  have hb1 : Below B w (w.setCell ⟨b, 0, none⟩ (.pointer (some ⟨b, 0, none⟩))) := (Below.refl B w).setCell (p := ⟨b, 0, none⟩) hB _
  have hU : Bld B b [] (w.setCell ⟨b, 0, none⟩ (.pointer (some ⟨b, 0, none⟩))) := ⟨hB, .slice none 0 0, hset, World.ownsRow_nil _ _ _ _, by simp [Value.ownBlock]⟩
  have mixed : Tryz.prog.follows .mixedOrders = true := by kernel_rfl
  go_enter Tryz.func60, Tryz.ntmps60
  go_wp2_with (go_at_call 111; refine (copyCheck_fresh b w (by rw [Lib.cell_of_heap hbk]; rfl) (by simp [World.shape?, hbk]) (Lib.frozen_of_heap hbk 0)).mono ?_; rintro e w' ⟨rfl, rfl⟩)
  go_region_o
  all_goals go_wp2_with (go_at_call 112; refine (grow_calls B b n (w.setCell ⟨b, 0, none⟩ (.pointer (some ⟨b, 0, none⟩))).drew hB hset (by simpa [World.setCell, World.drew, -World.drew_eq] using hBw) hn).mono ?_; rintro e w' ⟨rfl, h1, h2⟩)
  all_goals first
    | (go_end0; exact ⟨rfl, h1, hb1.drew.trans h2⟩)
    | (go_end0; exact ⟨rfl, hU.drew, hb1.drew⟩)
end Go.Proofs.YtjofmihdeblbmaaGreatDoor
/- strings.Join of two texts or more. -/
namespace Go.Proofs.YtjofmihdeblbmaaGreatDoor
open Go.Shelf Go.RowKit
theorem hid_ {p : Prop} (h : p) : Hid p := h
set_option maxHeartbeats 8000000 in
set_option maxRecDepth 1000000 in
/-- Join of two texts or more: the sum of the lengths first, then the builder, text by text -/
theorem joinMany_calls (bk o c : Nat) (xs : List ByteArray) (sep : ByteArray) (w : World) (cells : ∀ (j : Nat) x, xs[j]? = some x → w.cell? ⟨bk, o + j, none⟩ = some (.string x))
    (hbk : bk < w.heap.size) (h2 : 2 ≤ xs.length) (hN : xs.length ≤ 140737488355328) (hcap : xs.length ≤ c) (hlen : (Lib.join (xs.map (·.data.toList)) sep.data.toList).length ≤ 140737488355328) :
    Calls Tryz.prog 36 #[.slice (some ⟨bk, o, none⟩) xs.length c, .string sep] w fun e w' => e = .returned (.string ⟨(Lib.join (xs.map (·.data.toList)) sep.data.toList).toArray⟩) ∧ Below w.heap.size w w' := by
  have HC : Hid (∀ (j : Nat) x, xs[j]? = some x → w.cell? ⟨bk, o + j, none⟩ = some (.string x)) := hid_ (cells)
  clear cells
  obtain ⟨x0, r, hxs⟩ : ∃ x0 r, xs = x0 :: r := by
    cases xs with
    | nil => simp at h2
    | cons a t => exact ⟨a, t, rfl⟩
  have tot : sep.size * (xs.length - 1) + Lib.lens (xs.map (·.data.toList)) ≤ 140737488355328 := by
    have := Lib.join_length x0.data.toList (r.map (·.data.toList)) sep.data.toList
    rw [hxs] at hlen ⊢
    simp only [List.map_cons] at hlen ⊢
    rw [this, List.length_map] at hlen
    rw [Lib.size_eq, List.length_cons, Nat.add_sub_cancel]
    exact hlen
  have hmul : sep.size * (xs.length - 1) ≤ 140737488355328 := by omega
  generalize hM : sep.size * (xs.length - 1) = M at tot hmul
  have up : ((xs.length : Int) - 1) = ((xs.length - 1 : Nat) : Int) := by omega
  have hq : sep.size < 9223372036854775807 / (xs.length - 1) := by
    have : sep.size + 1 ≤ 9223372036854775807 / (xs.length - 1) := by
      rw [Nat.le_div_iff_mul_le (by omega), Nat.add_mul, hM]
      omega
    omega
  have hdv : ¬ (9223372036854775807 / ((xs.length : Int) - 1) ≤ (sep.size : Int)) := by
    have e1 : (9223372036854775807 : Int) / ((xs.length - 1 : Nat) : Int) = ((9223372036854775807 / (xs.length - 1) : Nat) : Int) := IntWalk.up_div (x := 9223372036854775807) rfl rfl
    rw [up, e1]
    generalize 9223372036854775807 / (xs.length - 1) = q at hq
    omega
  have hprod : wrap64 ((sep.size : Int) * ((xs.length : Int) - 1)) = (M : Int) := by
    have e1 : (sep.size : Int) * ((xs.length - 1 : Nat) : Int) = ((sep.size * (xs.length - 1) : Nat) : Int) := IntWalk.up_mul rfl rfl
    rw [up, e1, hM]
    exact IntWalk.wrap64_in _ ⟨by omega, by omega⟩
  have hM0 : sep.size = 0 → M = 0 := fun h => by rw [← hM, h, Nat.zero_mul]
  clear hq up
  have ne0 : ((xs.length : Int) == 0) = false := beq_eq_false_iff_ne.2 (by omega)
  have ne1 : ((xs.length : Int) == 1) = false := beq_eq_false_iff_ne.2 (by omega)
  have HX : Hid (xs = x0 :: r) := hid_ (hxs)
  have HL : Hid ((Lib.join (xs.map (·.data.toList)) sep.data.toList).length ≤ 140737488355328) := hid_ (hlen)
  clear hxs hlen
  have mixed : Tryz.prog.follows .mixedOrders = true := by kernel_rfl
  go_enter Tryz.func36, Tryz.ntmps36
  go_wp2_with fail
  all_goals (
    go_loop [5, 41] (fun n i => ∃ k : Nat, k ≤ xs.length ∧ i = .int .i64 k ∧ n = .int .i64 ((M + Lib.lens ((xs.map (·.data.toList)).take k) : Nat) : Int)) (fun _ i => xs.length - (intOf i).toNat)
    case atStart => exact ⟨0, Nat.zero_le _, rfl, by first | (simp [Lib.lens]; done) | (have := hM0 (by omega); simp [Lib.lens, this])⟩
    case round =>
      obtain ⟨k, hk, rfl, rfl⟩ := hrel
      by_cases hkn : k < xs.length
      · obtain ⟨x, hx⟩ : ∃ x, xs[k]? = some x := ⟨xs[k], List.getElem?_eq_getElem hkn⟩
        have hc := HC.out k x hx
        have step := Lib.lens_take_succ (xs.map (·.data.toList)) k x.data.toList (by simp [hx])
        have bound : Lib.lens ((xs.map (·.data.toList)).take (k + 1)) ≤ Lib.lens (xs.map (·.data.toList)) := Lib.lens_take_le _ _
        rw [← Lib.size_eq] at step
        generalize hA1 : Lib.lens ((xs.map (·.data.toList)).take (k + 1)) = A1 at step bound
        generalize Lib.lens ((xs.map (·.data.toList)).take k) = A0 at step
        have HA : Hid (Lib.lens ((xs.map (·.data.toList)).take (k + 1)) = A1) := hid_ (hA1)
        clear hA1
        go_wp2
        exact ⟨⟨k + 1, by omega, by go_num, by rw [HA.out]; refine congrArg _ ?_; omega⟩, by simp [intOf]; omega⟩
      · obtain rfl : k = xs.length := by omega
        have hall : (xs.map (·.data.toList)).take xs.length = xs.map (·.data.toList) := List.take_of_length_le (by simp)
        rw [hall]
        generalize Lib.lens (xs.map (·.data.toList)) = T at tot
        clear hall
        go_wp2_with fail
        rw [show ((M : Int) + (T : Int)) = ((M + T : Nat) : Int) by omega]
        refine (growFresh_calls w.heap.size w.heap.size (M + T) _ (Nat.le_refl _) (heap_alloc_new w _) (by simp) (by omega)).mono ?_
        rintro e w1 ⟨rfl, h1, hb1⟩
        have hb1' : Below w.heap.size w w1 := ((Below.refl w.heap.size w).alloc (Nat.le_refl _) _).trans hb1
        have hx0 : xs[0]? = some x0 := by rw [HX.out]; rfl
        have hc0 : w1.cell? ⟨bk, o, none⟩ = some (.string x0) := (hb1'.cell (p := ⟨bk, o, none⟩) hbk).trans (HC.out 0 x0 hx0)
        have H1 : Hid (Lib.IsBuilder 121 5 w.heap.size w.heap.size [] w1) := hid_ (.inr h1)
        have HB1 : Hid (Below w.heap.size w w1) := hid_ (hb1')
        have hBw1 : w.heap.size ≤ w1.heap.size := hb1'.size
        clear h1 hb1 hb1'
        have whole : Lib.join (xs.map (·.data.toList)) sep.data.toList = x0.data.toList ++ Lib.joinTail sep.data.toList (r.map (·.data.toList)) := by
          rw [HX.out, List.map_cons, Lib.join_cons]
        have fits : ∀ k, (x0.data.toList ++ Lib.joinTail sep.data.toList ((r.map (·.data.toList)).take k)).length ≤ 140737488355328 := fun k => by
          have h1 := HL.out
          rw [whole, List.length_append] at h1
          have h2 := Lib.joinTail_take_le sep.data.toList (r.map (·.data.toList)) k
          rw [List.length_append]
          omega
        have HF : Hid (∀ k, (x0.data.toList ++ Lib.joinTail sep.data.toList ((r.map (·.data.toList)).take k)).length ≤ 140737488355328) := hid_ (fits)
        have HW0 : Hid (Lib.join (xs.map (·.data.toList)) sep.data.toList = x0.data.toList ++ Lib.joinTail sep.data.toList (r.map (·.data.toList))) := hid_ (whole)
        clear fits whole
        go_wp2_with fail
        refine (writeString_calls w.heap.size w.heap.size [] x0 w1 H1.out (by have := HF.out 0; simp [Lib.joinTail] at this ⊢; omega) hBw1).mono ?_
        rintro e w2 ⟨rfl, h2', hb2⟩
        rw [show ([] : List Value) ++ Lib.strCells x0 = Lib.byteCells (x0.data.toList ++ Lib.joinTail sep.data.toList ((r.map (·.data.toList)).take 0)) by simp [Lib.joinTail, Lib.strCells_eq]] at h2'
        have H2 : Hid (Lib.IsBuilder 121 5 w.heap.size w.heap.size (Lib.byteCells (x0.data.toList ++ Lib.joinTail sep.data.toList ((r.map (·.data.toList)).take 0))) w2) := hid_ (.inr h2')
        have HB2 : Hid (Below w.heap.size w w2) := hid_ (HB1.out.trans hb2)
        clear h2' hb2
        have hrl : r.length = xs.length - 1 := by rw [HX.out]; simp
        go_wp2_with fail
        go_loopw [65] (fun i wr => ∃ k : Nat, k ≤ r.length ∧ i = .int .i64 k ∧ Hid (Lib.IsBuilder 121 5 w.heap.size w.heap.size (Lib.byteCells (x0.data.toList ++ Lib.joinTail sep.data.toList ((r.map (·.data.toList)).take k))) wr) ∧ Hid (Below w.heap.size w wr)) (fun i _ => r.length - (intOf i).toNat)
        case atStart => exact ⟨0, Nat.zero_le _, rfl, H2, HB2⟩
        case round =>
          obtain ⟨k, hk', rfl, HB, HW⟩ := hrel
          by_cases hkr : k < r.length
          · obtain ⟨y, hy⟩ : ∃ y, r[k]? = some y := ⟨r[k], List.getElem?_eq_getElem hkr⟩
            have hxy : xs[k + 1]? = some y := by rw [HX.out]; simpa using hy
            have hcy : wr.cell? ⟨bk, o + 1 + k, none⟩ = some (.string y) := by
              rw [HW.out.cell (p := ⟨bk, o + 1 + k, none⟩) hbk, show o + 1 + k = o + (k + 1) by omega]
              exact HC.out (k + 1) y hxy
            have hBw : w.heap.size ≤ wr.heap.size := HW.out.size
            have next : Lib.byteCells (x0.data.toList ++ Lib.joinTail sep.data.toList ((r.map (·.data.toList)).take k)) ++ Lib.strCells sep ++ Lib.strCells y = Lib.byteCells (x0.data.toList ++ Lib.joinTail sep.data.toList ((r.map (·.data.toList)).take (k + 1))) := by
              rw [Lib.joinTail_take_succ sep.data.toList (r.map (·.data.toList)) k y.data.toList (by simp [hy]), Lib.strCells_eq, Lib.strCells_eq, ← Lib.byteCells_append, ← Lib.byteCells_append, List.append_assoc, List.append_assoc, List.append_assoc]
            have hl1 := HF.out (k + 1)
            rw [Lib.joinTail_take_succ sep.data.toList (r.map (·.data.toList)) k y.data.toList (by simp [hy])] at hl1
            simp only [List.length_append, ← Lib.size_eq] at hl1
            have hl0 : (Lib.byteCells (x0.data.toList ++ Lib.joinTail sep.data.toList ((r.map (·.data.toList)).take k))).length = x0.size + (Lib.joinTail sep.data.toList ((r.map (·.data.toList)).take k)).length := by
              rw [Lib.byteCells_length, List.length_append, ← Lib.size_eq]
            generalize (Lib.joinTail sep.data.toList ((r.map (·.data.toList)).take k)).length = J at hl0 hl1
            have HN : Hid (Lib.byteCells (x0.data.toList ++ Lib.joinTail sep.data.toList ((r.map (·.data.toList)).take k)) ++ Lib.strCells sep ++ Lib.strCells y = Lib.byteCells (x0.data.toList ++ Lib.joinTail sep.data.toList ((r.map (·.data.toList)).take (k + 1)))) := hid_ (next)
            clear next hy hxy
            go_wp2_with fail
            refine (writeString_calls w.heap.size w.heap.size _ sep wr HB.out (by rw [hl0]; omega) hBw).mono ?_
            rintro e w3 ⟨rfl, h3, hb3⟩
            have hBw3 : w.heap.size ≤ w3.heap.size := Nat.le_trans hBw hb3.size
            have H3 : Hid (Bld w.heap.size w.heap.size (Lib.byteCells (x0.data.toList ++ Lib.joinTail sep.data.toList ((r.map (·.data.toList)).take k)) ++ Lib.strCells sep) w3) := hid_ (h3)
            have HB3 : Hid (Below w.heap.size wr w3) := hid_ (hb3)
            clear h3 hb3
            go_wp2_with fail
            refine (writeString_calls w.heap.size w.heap.size _ y w3 (.inr H3.out) (by rw [List.length_append, hl0, Lib.strCells_length]; omega) hBw3).mono ?_
            rintro e w4 ⟨rfl, h4, hb4⟩
            rw [HN.out] at h4
            have H4 : Hid (Lib.IsBuilder 121 5 w.heap.size w.heap.size (Lib.byteCells (x0.data.toList ++ Lib.joinTail sep.data.toList ((r.map (·.data.toList)).take (k + 1)))) w4) := hid_ (.inr h4)
            have HB4 : Hid (Below w.heap.size w w4) := hid_ ((HW.out.trans HB3.out).trans hb4)
            clear h4 hb4
            go_wp2
            exact ⟨⟨k + 1, by omega, by go_num, H4, HB4⟩, by simp [intOf]; omega⟩
          · obtain rfl : k = r.length := by omega
            have hfull : (r.map (·.data.toList)).take r.length = r.map (·.data.toList) := List.take_of_length_le (by simp)
            have hB' := HB.out
            rw [hfull, ← HW0.out] at hB'
            have hBw : w.heap.size ≤ wr.heap.size := HW.out.size
            go_wp2_with fail
            refine (Tryz.Builder_String_any w.heap.size w.heap.size _ wr hB' hBw).mono ?_
            rintro e w5 ⟨rfl, hb5⟩
            have HB5 : Hid (Below w.heap.size w w5) := hid_ (HW.out.trans hb5)
            clear hb5 hB'
            go_wp2
            go_ret
            exact ⟨rfl, HB5.out⟩)
end Go.Proofs.YtjofmihdeblbmaaGreatDoor

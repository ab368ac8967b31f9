/- XA: graph: clean. | XA: graph: reach. | XA: graph: Cyclic. | XA: graph: Cyclic. -/
import Derived.Test.YtjofmihdeblbmaaGreatDoorXaM69
namespace Go.Proofs.YtjofmihdeblbmaaGreatDoor.Xa
open Go Go.RowKit
set_option linter.unusedVariables false
set_option linter.unusedSimpArgs false
set_option maxRecDepth 100000
set_option maxHeartbeats 1000000
/-- a row of ints within a row: its number, its width, what is in it -/
abbrev RR := Nat × Nat × List Int
def rrV (r : RR) : List V := [.slc r.1 r.2.1 (r.2.2.map intV)]
def RrOk (l : List RR) : Prop := ∀ r ∈ l, r.2.2 ≠ [] → r.1 ≠ 0 ∧ r.2.1 = 1
/-- a graph that lies in an array -/
def GrR (h : H) (id : Nat) (G : List (List Int)) : Prop := id < h.next ∧ ∃ l, h.arr id = some ⟨l.map rrV, 1, 23⟩ ∧ RrOk l ∧ l.map (·.2.2) = G
theorem GrR.fr {h h' : H} {id : Nat} {G : List (List Int)} (x : GrR h id G) (f : Fr h h') : GrR h' id G := by
  obtain ⟨h1, l, h2, h3⟩ := x
  exact ⟨Nat.lt_of_lt_of_le h1 f.next, l, (f.arr id h1).trans h2, h3⟩
/-- a graph's row without what is no point, and without doubles -/
def clRow (n : Nat) : List Int → List Int → List Int
  | acc, [] => acc
  | acc, k :: ks => if leB 0 k && ltB k (n : Nat) && !acc.contains k then clRow n (acc ++ [k]) ks else clRow n acc ks
def CnJ (h0 : H) (id n : Nat) (G : List (List Int)) : Nat → List V → H → Prop := fun m fr' h' => ∃ (i : Nat) (rr : List RR) (L : List Int), m + i = n + 1 ∧ i ≤ n ∧ Fr h0 h' ∧ h0.next + 1 < h'.next ∧
  h'.arr h0.next = some ⟨(rr ++ List.replicate (n - i) (0, 0, [])).map rrV, 1, 23⟩ ∧ rr.length = i ∧ rr.map (·.2.2) = (G.take i).map (clRow n []) ∧ RrOk rr ∧
  h'.arr (h0.next + 1) = some ⟨L.map intV, 1, 3⟩ ∧ L.length = n ∧ (∀ x ∈ L, x ≤ (i : Nat)) ∧
  fr'.length = 63 ∧ ev fr' (.tmp 0) = .msl id 0 n 1 ∧ ev fr' (.tmp 3) = .msl h0.next 0 n 1 ∧ ev fr' (.tmp 4) = .msl (h0.next + 1) 0 n 1 ∧ ev fr' (.tmp 15) = .msl id 0 n 1 ∧ ev fr' (.tmp 16) = .lit (.int .i64 (n : Nat)) ∧ ev fr' (.tmp 17) = .lit (.int .i64 (i : Nat))
def CnK (h0 : H) (id n i : Nat) (rr : List RR) (kv : V) (ks res : List Int) : Nat → List V → H → Prop := fun m fr' h' => ∃ (j rid rsz : Nat) (acc L : List Int), m + j = ks.length + 1 ∧ j ≤ ks.length ∧ clRow n acc (ks.drop j) = res ∧ acc.length ≤ j ∧ Fr h0 h' ∧ h0.next + 1 < h'.next ∧ Own h' rid rsz acc.length 1 (h0.next + 2) ∧
  h'.arr h0.next = some ⟨(rr ++ (rid, rsz, acc) :: List.replicate (n - i - 1) (0, 0, [])).map rrV, 1, 23⟩ ∧
  h'.arr (h0.next + 1) = some ⟨L.map intV, 1, 3⟩ ∧ L.length = n ∧ (∀ (k : Nat) (x : Int), L[k]? = some x → (x = ((i + 1 : Nat) : Int) ↔ ((k : Nat) : Int) ∈ acc) ∧ x ≤ ((i + 1 : Nat) : Int)) ∧
  fr'.length = 63 ∧ ev fr' (.tmp 0) = .msl id 0 n 1 ∧ ev fr' (.tmp 3) = .msl h0.next 0 n 1 ∧ ev fr' (.tmp 4) = .msl (h0.next + 1) 0 n 1 ∧ ev fr' (.tmp 15) = .msl id 0 n 1 ∧ ev fr' (.tmp 16) = .lit (.int .i64 (n : Nat)) ∧ ev fr' (.tmp 17) = .lit (.int .i64 (i : Nat)) ∧
  ev fr' (.tmp 5) = .lit (.int .i64 (i : Nat)) ∧ ev fr' (.tmp 22) = kv ∧ ev fr' (.tmp 23) = .lit (.int .i64 (ks.length : Nat)) ∧ ev fr' (.tmp 24) = .lit (.int .i64 (j : Nat))
attribute [local simp] hid2 hid3 hid4 xcode_skip xcode_region xcode_draw xcode_loop xcode_seq xcode_cond xcode_block xcode_scope xcode_exit xcode_ret xops_nil xops_cons xd_nil xd_cons xstep_eq annot fillOf findFill findStore srcOf kcls cls qval qvalN xwant dstAt want1 xdo xop ev_const ev_global ev_func ev_zero ev_succ ev_undefs ev_hit ev_miss put_none put_len undefs_len xnil xfieldAddr fieldOf eT emtb seqQ blockQ xload xstore splice V.storable V.one V.cells mk xbinop xbin xun xbuiltin xindexAddr nilOr xindex xint cv cv1 retQ xres_tmp xres_cell xres_nil xresult xbuild xfill xbuildSlice xrows Nat.testBit places xfield item sideOk pendOk pendOf tyT1 tyT2 tyT3 tyT4 tyT5 tyT9 tyT22 tyT23 tyT24 tyT25 tyT26 tyT30 tyT34 tyT39 tyT41 tyT47 tyT48 tyT50 tyT53 tyT54 tyT56 tyT58 tyT63 tyT70 tyT76 tyT78 tyT80 tyT84 tyT87 tyT89 tyT96 tyT98 tyT100 tyT102 tyT108 tyT110 tyT112 tyT113 tyT115 tyT119 tyT121 tyT124 tyT138 tyT139 tyT141 tyT142 tyT143 tyT145 tyT147 tyT149 tyT155 tyT158 tyT164 tyT179 tyT186 tyT188 tyT189 tyT194 tyT197 tyT200 tyT216 tyT242 tyT245 H.put_get H.new_get H.row_obj H.grow_obj H.bump_obj H.newArr_obj H.putArr_obj H.moveArr_obj H.put_arr H.new_arr H.row_arr H.grow_arr H.bump_arr H.newArr_get H.putArr_get H.moveArr_get H.put_ext H.new_ext H.newArr_ext H.putArr_ext H.moveArr_ext H.bump_ext H.row_get H.grow_get H.new_next H.row_next H.bump_next H.put_next H.grow_next H.newArr_next H.putArr_next H.moveArr_next H.app_next H.app_obj H.app_arr H.app_get bne emT emM xapp_em xmakeSlice xslice xlookup xmapUpdate keyShape
theorem clean_calls (h : H) (id : Nat) (G : List (List Int)) (hG : GrR h id G) (hn : G.length ≤ 90000) (hm : ∀ r ∈ G, r.length ≤ 90000) :
    XCalls e 188 [.msl id 0 G.length 1] h (fun v h' => ∃ oid, v = .msl oid 0 G.length 1 ∧ Fr h h' ∧ h.next ≤ oid ∧ GrR h' oid (G.map (clRow G.length []))) := by
  obtain ⟨hid, l, hl, hok, rfl⟩ := hG
  refine XCalls.of Tryz.func188 rfl (by kernel_rfl) ?_
  rw [Tryz.ntmps188]
  have hb : (8 : Int) * (l.length : Nat) ≤ 281474976710656 := by simp at hn; omega
  have hb2 : (24 : Int) * (l.length : Nat) ≤ 281474976710656 := by simp at hn; omega
  have hmx : l.length ≤ maxLen := by unfold maxLen; simp at hn; omega
  simp only [List.length_map] at hn ⊢
  simp [-Int.natCast_add, isM, xappendM, rowsIn, hb, hb2, hmx]
  refine XW.loopH (CnJ h id l.length (l.map (·.2.2))) (l.length + 1) ?_ ?_
  · refine ⟨0, [], List.replicate l.length 0, by omega, by omega, (Fr.newArr _ _).newArr1 _, by simp only [H.newArr_next]; omega, ?_, rfl, by simp, by intro r hr; simp at hr, ?_, by simp, by intro x hx; simp at hx; omega, ?_⟩
    · simp [H.newArr_get, H.newArr_next, rrV]
    · simp [H.newArr_get, H.newArr_next, intV]
    · simp [-Int.natCast_add, isM, xappendM, rowsIn]
  · rintro m fr' h' ⟨i, rr, L, hmk, hk, hF, hnx, ha, hrl, hrm, hro, hL, hLn, hLi, e0, e1, e2, e3, e4, e5, e6⟩
    rcases Nat.lt_or_ge i l.length with hi | hi
    · have hi' : (i : Int) < (l.length : Int) := by omega
      have hw : IntKind.i64.wrap ((i : Int) + 1) = ((i + 1 : Nat) : Int) := wrapS (a := i) (b := 1) (by omega)
      have hl' := (hF.arr id hid).trans hl
      have hrow : (l.map rrV)[i]? = some [.slc l[i].1 l[i].2.1 (l[i].2.2.map intV)] := by
        rw [List.getElem?_map, List.getElem?_eq_getElem hi]; rfl
      generalize hri : l[i] = ri at hrow
      obtain ⟨r1, r2, ks⟩ := ri
      have hkm : ks.length ≤ 90000 := by
        have := hm ks (by rw [List.mem_map]; exact ⟨l[i], List.getElem_mem hi, by rw [hri]⟩)
        exact this
      have hok1 := hok l[i] (List.getElem_mem hi)
      rw [hri] at hok1
      simp only at hok1 hrow
      simp [-Int.natCast_add, isM, xappendM, rowsIn, -List.map_append, e0, e1, e2, e3, e4, e5, e6, hi, hi', ltB_t, hl', hrow]
      generalize hrr : clRow l.length [] ks = res
      refine XW.loopH (CnK h id l.length i rr (.slc r1 r2 (ks.map intV)) ks res) (ks.length + 1) ?_ ?_
      · refine ⟨0, 0, 0, [], L, by omega, by omega, by simpa using hrr, by simp, hF, hnx, Own.nil _ _ _, ?_, hL, hLn, ?_, ?_⟩
        · rw [ha]
          have : l.length - i = (l.length - i - 1) + 1 := by omega
          rw [this, List.replicate_succ]
          simp
        · intro k x hx
          have := hLi x (List.mem_of_getElem? hx)
          refine ⟨⟨fun h => by omega, fun h => by cases h⟩, by omega⟩
        · simp [-Int.natCast_add, isM, xappendM, rowsIn, e0, e1, e2, e3, e4, e5, e6, hri]
      clear e0 e1 e2 e3 e4 e5 e6 hL hLn hLi ha hl' hnx hF
      rintro m' fr' h' ⟨j, rid, rsz, acc, L, hmj, hj, hres, hacc, hF, hnx, hO, ha, hL, hLn, hLi, e0, e1, e2, e3, e4, e5, e6, e7, e8, e9, e10⟩
      rcases Nat.lt_or_ge j ks.length with hjl | hjl
      · have hjl' : (j : Int) < (ks.length : Int) := by omega
        have z1 := (hok1 (by intro h0; rw [h0] at hjl; cases hjl)).2
        subst z1
        have hwj : IntKind.i64.wrap ((j : Int) + 1) = ((j + 1 : Nat) : Int) := wrapS (a := j) (b := 1) (by omega)
        rw [List.drop_eq_getElem_cons hjl] at hres
        generalize htt : ks[j] = t at hres
        unfold clRow at hres
        have hlit : intV t = [.lit (.int .i64 t)] := rfl
        cases g1 : leB 0 t
        · simp [g1] at hres
          simp [-Int.natCast_add, isM, xappendM, rowsIn, -List.map_append, e0, e1, e2, e3, e4, e5, e6, e7, e8, e9, e10, hjl, hjl', ltB_t, htt, hlit, g1]
          refine ⟨m' - 1, by omega, j + 1, rid, rsz, acc, L, by omega, by omega, hres, by omega, hF, hnx, hO, ha, hL, hLn, hLi, ?_⟩
          simp [-Int.natCast_add, isM, xappendM, rowsIn, e0, e1, e2, e3, e4, e5, e6, e7, e8, e9, e10, hwj]
        · cases g2 : ltB t (l.length : Nat)
          · simp [g1, g2] at hres
            simp [-Int.natCast_add, isM, xappendM, rowsIn, -List.map_append, e0, e1, e2, e3, e4, e5, e6, e7, e8, e9, e10, hjl, hjl', ltB_t, htt, hlit, g1, g2]
            refine ⟨m' - 1, by omega, j + 1, rid, rsz, acc, L, by omega, by omega, hres, by omega, hF, hnx, hO, ha, hL, hLn, hLi, ?_⟩
            simp [-Int.natCast_add, isM, xappendM, rowsIn, e0, e1, e2, e3, e4, e5, e6, e7, e8, e9, e10, hwj]
          · have t0 : 0 ≤ t := by
              apply Classical.byContradiction; intro hn; rw [leB_f (by omega)] at g1; cases g1
            have t1 : t < (l.length : Int) := by
              apply Classical.byContradiction; intro hn; rw [ltB_f (by omega)] at g2; cases g2
            have htl : t.toNat < L.length := by omega
            obtain ⟨x, hx⟩ : ∃ x, L[t.toNat]? = some x := ⟨_, List.getElem?_eq_getElem htl⟩
            have hrowx : (L.map intV)[t.toNat]? = some [.lit (.int .i64 x)] := by rw [List.getElem?_map, hx]; rfl
            have hLx := hLi _ _ hx
            have htn : ((t.toNat : Nat) : Int) = t := by omega
            rw [htn] at hLx
            cases g3 : (x == ((i + 1 : Nat) : Int))
            · have hni : acc.contains t = false := by
                rw [List.contains_eq_mem]
                simp only [decide_eq_false_iff_not]
                intro hc
                rw [hLx.1.2 hc] at g3
                simp at g3
              have hnm : t ∉ acc := by simpa using hni
              simp [g1, g2, hnm] at hres
              have hrowo : ((rr ++ (rid, rsz, acc) :: List.replicate (l.length - i - 1) (0, 0, [])).map rrV)[i]? = some [.slc rid rsz (acc.map intV)] := by
                rw [List.getElem?_map, List.getElem?_append_right (by omega), hrl, Nat.sub_self]; rfl
              have hlo : i < rr.length + (l.length - i - 1 + 1) := by omega
              have n0 : h'.next ≠ 0 := by omega
              have n1 : h.next ≠ h.next + 1 := by omega
              simp [-Int.natCast_add, isM, xappendM, rowsIn, -List.map_append, e0, e1, e2, e3, e4, e5, e6, e7, e8, e9, e10, hjl, hjl', ltB_t, htt, hlit, g1, g2, g3, hw, t0, t1, hL, hrowx, hi, ha, hrowo, n0, n1]
              rw [xapp_own 23 (w := 1) rfl rfl rfl rfl (by decide) (lo := h.next + 2) ?a1 ?a2 ?a3 ?a4 ?a5]
              case a1 => rw [List.length_map]; exact hO.of_ext (by simp only [H.row_next, H.putArr_next]; omega) (by rw [H.row_get, if_neg]; rfl; rcases hO with q | q <;> simp only [H.putArr_next] <;> omega)
              case a2 => omega
              case a3 => simp
              case a4 => simp; omega
              case a5 => simp [maxLen]; omega
              simp [-Int.natCast_add, isM, xappendM, rowsIn, -List.map_append, e0, e1, e2, e3, e4, e5, e6, e7, e8, e9, e10, hi, ha, hrowo, n0, n1]
              have hlow := hO.low
              refine ⟨m' - 1, by omega, j + 1, h'.next + 1, 1, acc ++ [t], L.set t.toNat ((i + 1 : Nat) : Int), by omega, by omega, hres, by simp; omega, ?_, ?_, ?_, ?_, ?_, ?_, ?_, ?_⟩
              · exact (((hF.putArr (by omega) _).row1 _).app (by omega) _).putArr (Nat.le_refl _) _
              · simp only [H.putArr_next, H.app_next, H.row_next]; omega
              · refine Own.of_ext (h := ((h'.putArr (h.next + 1) ⟨(L.map intV).set t.toNat [.lit (.int .i64 ((i + 1 : Nat) : Int))], 1, 3⟩).row 1).app rid (acc.length + 1)) ?_ (by simp only [H.putArr_next]; omega) (by simp only [H.putArr_ext])
                have := Own.app (h := (h'.putArr (h.next + 1) ⟨(L.map intV).set t.toNat [.lit (.int .i64 ((i + 1 : Nat) : Int))], 1, 3⟩).row 1) (id := rid) (k := acc.length + 1) (w := 1) (lo := h.next + 2) (by simp only [H.row_next, H.putArr_next]; omega) (by simp only [H.row_next]; omega)
                simp only [H.row_next, H.putArr_next] at this
                simpa using this
              · rw [H.putArr_get, if_pos rfl]
                rw [List.map_append, List.set_append_right _ _ (by simp; omega)]
                simp [rrV, intV, hrl]
              · rw [H.putArr_get, if_neg (by omega), H.app_arr, H.row_arr, H.putArr_get, if_pos rfl]
                simp [List.map_set, intV]
              · simpa using hLn
              · intro k x hx
                rw [List.getElem?_set] at hx
                split at hx
                · rename_i hkt
                  obtain rfl := Option.some.inj hx
                  refine ⟨⟨fun _ => ?_, fun _ => rfl⟩, Int.le_refl _⟩
                  rw [← hkt, htn]
                  simp
                · rename_i hkt
                  have := hLi k x hx
                  refine ⟨?_, this.2⟩
                  rw [this.1, List.mem_append, List.mem_singleton]
                  constructor
                  · exact fun h => .inl h
                  · rintro (h | h)
                    · exact h
                    · exact absurd (by omega) hkt
              · simp [-Int.natCast_add, isM, xappendM, rowsIn, e0, e1, e2, e3, e4, e5, e6, e7, e8, e9, e10, hwj]
            · have hni : acc.contains t = true := by
                rw [List.contains_eq_mem]
                simp only [decide_eq_true_eq]
                exact hLx.1.1 (by simpa using g3)
              have hnm : t ∈ acc := by simpa using hni
              simp [g1, g2, hnm] at hres
              simp [-Int.natCast_add, isM, xappendM, rowsIn, -List.map_append, e0, e1, e2, e3, e4, e5, e6, e7, e8, e9, e10, hjl, hjl', ltB_t, htt, hlit, g1, g2, g3, hw, t0, t1, hL, hrowx]
              refine ⟨m' - 1, by omega, j + 1, rid, rsz, acc, L, by omega, by omega, hres, by omega, hF, hnx, hO, ha, hL, hLn, hLi, ?_⟩
              simp [-Int.natCast_add, isM, xappendM, rowsIn, e0, e1, e2, e3, e4, e5, e6, e7, e8, e9, e10, hwj]
      · have hje : j = ks.length := by omega
        have hlf : ltB (j : Int) (ks.length : Int) = false := ltB_f (by omega)
        rw [List.drop_of_length_le (by omega)] at hres
        unfold clRow at hres
        subst hres
        simp [-Int.natCast_add, isM, xappendM, rowsIn, -List.map_append, e0, e1, e2, e3, e4, e5, e6, e7, e8, e9, e10, hlf]
        have hks : (List.take (i + 1) (l.map (fun x : RR => x.2.2))) = List.take i (l.map (fun x : RR => x.2.2)) ++ [ks] := by
          rw [List.take_add_one, List.getElem?_map, List.getElem?_eq_getElem hi, hri]
          rfl
        refine ⟨m - 1, by omega, i + 1, rr ++ [(rid, rsz, acc)], L, by omega, by omega, hF, hnx, ?_, by simp [hrl], ?_, ?_, hL, hLn, ?_, ?_⟩
        · rw [ha]
          simp [Nat.sub_add_eq]
        · rw [List.map_append, hrm, hks, List.map_append]
          simp [hrr]
        · intro r hr
          rcases List.mem_append.1 hr with hr | hr
          · exact hro r hr
          · simp at hr
            subst hr
            intro hne
            rcases hO with ⟨q, _⟩ | ⟨_, _, q1, _, q2⟩
            · exact absurd (List.length_eq_zero_iff.1 q) hne
            · exact ⟨q2, q1⟩
        · intro x hx
          obtain ⟨k, hk⟩ := List.mem_iff_getElem?.1 hx
          exact (hLi k x hk).2
        · simp [-Int.natCast_add, isM, xappendM, rowsIn, e0, e1, e2, e3, e4, e5, e6, e7, e8, e9, e10, hw]
    · have hie : i = l.length := by omega
      have hlf : ltB (i : Int) (l.length : Int) = false := ltB_f (by omega)
      rw [hie, Nat.sub_self, List.replicate_zero, List.append_nil] at ha
      rw [hie, List.take_of_length_le (by simp)] at hrm
      simp [-Int.natCast_add, isM, xappendM, rowsIn, -List.map_append, e0, e1, e2, e3, e4, e5, e6, hlf]
      refine ⟨hF, by omega, rr, ha, hro, ?_⟩
      rw [hrm]
      simp
end Go.Proofs.YtjofmihdeblbmaaGreatDoor.Xa
namespace Go.Proofs.YtjofmihdeblbmaaGreatDoor.Xa
open Go Go.RowKit
set_option linter.unusedVariables false
set_option linter.unusedSimpArgs false
set_option maxRecDepth 100000
set_option maxHeartbeats 1000000
def boolV (b : Bool) : List V := [.lit (.bool b)]
def rStep : List Bool → List Nat → List Int → Option (List Bool × List Nat)
  | seen, todo, [] => some (seen, todo)
  | seen, todo, k :: ks => if ltB k 0 then none else match seen[k.toNat]? with
    | none => none
    | some true => rStep seen todo ks
    | some false => if k == -1 then none else rStep (seen.set k.toNat true) (todo ++ [k.toNat]) ks
def rLoop (G : List (List Int)) : Nat → List Bool → List Nat → Option (List Bool)
  | 0, _, _ => none
  | f + 1, seen, todo => match todo.getLast? with
    | none => some seen
    | some k => match G[k]? with
      | none => none
      | some ks => match rStep seen todo.dropLast ks with
        | some (s', t') => if t'.length ≤ 99000 then rLoop G f s' t' else none
        | none => none
def reachP (f : Nat) (G : List (List Int)) : Option (List Bool) :=
  if G.length = 0 then some [] else rLoop G f ((List.replicate G.length false).set 0 true) [0]
theorem rStep_len : ∀ (ts : List Int) (s : List Bool) (td : List Nat) (s' : List Bool) (td' : List Nat), rStep s td ts = some (s', td') → td.length ≤ td'.length ∧ s'.length = s.length
  | [], s, td, s', td', hx => by
    unfold rStep at hx
    obtain ⟨rfl, rfl⟩ := Prod.mk.inj (Option.some.inj hx)
    exact ⟨Nat.le_refl _, rfl⟩
  | t :: ts, s, td, s', td', hx => by
    unfold rStep at hx
    split at hx
    · cases hx
    split at hx
    · cases hx
    · exact rStep_len ts _ _ _ _ hx
    · split at hx
      · cases hx
      · have := rStep_len ts _ _ _ _ hx
        simp at this
        exact ⟨by omega, this.2⟩
structure RcI (h0 : H) (id : Nat) (G : List (List Int)) (sn : List Bool) (todo : List Nat) (sid tid : Nat) (h' : H) : Prop where
  fr : Fr h0 h'
  gr : GrR h' id G
  arrs : h'.arr sid = some ⟨sn.map boolV, 1, 4⟩
  arrt : ∃ r, h'.arr tid = some ⟨(natI todo).map intV ++ r, 1, 3⟩
  lts : h0.next ≤ sid ∧ sid < h'.next
  ltt : h0.next ≤ tid ∧ tid < h'.next
  ne : sid ≠ tid
  len : sn.length = G.length
def RcJ (h0 : H) (id : Nat) (G : List (List Int)) (res : List Bool) : Nat → List V → H → Prop := fun m fr' h' => ∃ (sn : List Bool) (todo : List Nat) (sid tid : Nat), rLoop G m sn todo = some res ∧ todo.length ≤ 99000 ∧ RcI h0 id G sn todo sid tid h' ∧
  fr'.length = 72 ∧ ev fr' (.tmp 0) = .msl id 0 G.length 1 ∧ ev fr' (.tmp 2) = .lit (.int .i64 (-1)) ∧ ev fr' (.tmp 7) = .msl sid 0 G.length 1 ∧ ev fr' (.tmp 8) = .msl tid 0 todo.length 1
def RcK (h0 : H) (id : Nat) (G : List (List Int)) (ks : List Int) (rv : V) (sn2 : List Bool) (todo2 : List Nat) : Nat → List V → H → Prop := fun m fr' h' => ∃ (j : Nat) (sn : List Bool) (td : List Nat) (sid tid : Nat), m + j = ks.length + 1 ∧ j ≤ ks.length ∧ rStep sn td (ks.drop j) = some (sn2, todo2) ∧ RcI h0 id G sn td sid tid h' ∧
  fr'.length = 72 ∧ ev fr' (.tmp 0) = .msl id 0 G.length 1 ∧ ev fr' (.tmp 2) = .lit (.int .i64 (-1)) ∧ ev fr' (.tmp 7) = .msl sid 0 G.length 1 ∧ ev fr' (.tmp 8) = .msl tid 0 td.length 1 ∧ ev fr' (.tmp 48) = rv ∧ ev fr' (.tmp 49) = .lit (.int .i64 (ks.length : Nat)) ∧ ev fr' (.tmp 50) = .lit (.int .i64 (j : Nat))
def RcQ (h0 : H) (res : List Bool) : V → H → Prop := fun v h' => ∃ sid, v = .msl sid 0 res.length 1 ∧ Fr h0 h' ∧ h0.next ≤ sid ∧ sid < h'.next ∧ h'.arr sid = some ⟨res.map boolV, 1, 4⟩
attribute [local simp] hid2 hid3 hid4 xcode_skip xcode_region xcode_draw xcode_loop xcode_seq xcode_cond xcode_block xcode_scope xcode_exit xcode_ret xops_nil xops_cons xd_nil xd_cons xstep_eq annot fillOf findFill findStore srcOf kcls cls qval qvalN xwant dstAt want1 xdo xop ev_const ev_global ev_func ev_zero ev_succ ev_undefs ev_hit ev_miss put_none put_len undefs_len xnil xfieldAddr fieldOf eT emtb seqQ blockQ xload xstore splice V.storable V.one V.cells mk xbinop xbin xun xbuiltin xindexAddr nilOr xindex xint cv cv1 retQ xres_tmp xres_cell xres_nil xresult xbuild xfill xbuildSlice xrows Nat.testBit places xfield item sideOk pendOk pendOf tyT1 tyT2 tyT3 tyT4 tyT5 tyT9 tyT22 tyT23 tyT24 tyT25 tyT26 tyT30 tyT34 tyT39 tyT41 tyT47 tyT48 tyT50 tyT53 tyT54 tyT56 tyT58 tyT63 tyT70 tyT76 tyT78 tyT80 tyT84 tyT87 tyT89 tyT96 tyT98 tyT100 tyT102 tyT108 tyT110 tyT112 tyT113 tyT115 tyT119 tyT121 tyT124 tyT138 tyT139 tyT141 tyT142 tyT143 tyT145 tyT147 tyT149 tyT155 tyT158 tyT164 tyT179 tyT186 tyT188 tyT189 tyT194 tyT197 tyT200 tyT216 tyT242 tyT245 H.put_get H.new_get H.row_obj H.grow_obj H.bump_obj H.newArr_obj H.putArr_obj H.moveArr_obj H.put_arr H.new_arr H.row_arr H.grow_arr H.bump_arr H.newArr_get H.putArr_get H.moveArr_get H.put_ext H.new_ext H.newArr_ext H.putArr_ext H.moveArr_ext H.bump_ext H.row_get H.grow_get H.new_next H.row_next H.bump_next H.put_next H.grow_next H.newArr_next H.putArr_next H.moveArr_next H.app_next H.app_obj H.app_arr H.app_get bne emT emM xapp_em xmakeSlice xslice xlookup xmapUpdate keyShape
theorem reach_calls (h : H) (id : Nat) (G : List (List Int)) (hG : GrR h id G) (hn : G.length ≤ 90000) (hm : ∀ r ∈ G, r.length ≤ 90000) (f : Nat) (res : List Bool) (hp : reachP f G = some res) :
    XCalls e 189 [.msl id 0 G.length 1, .lit (.int .i64 0), .lit (.int .i64 (-1))] h (RcQ h res) := by
  refine XCalls.ofM [23] ?_
  refine XCalls.of Tryz.func189 rfl (by kernel_rfl) ?_
  rw [Tryz.ntmps189]
  have hidb : id < h.next := hG.1
  unfold reachP at hp
  have hb : (24 : Int) * (G.length : Nat) ≤ 281474976710656 := by omega
  have hb1 : ((G.length : Nat) : Int) ≤ 281474976710656 := by omega
  have hmx : G.length ≤ maxLen := by unfold maxLen; omega
  simp [-Int.natCast_add, isM, xappendM, rowsIn]
  split at hp
  case isTrue h0 =>
    obtain rfl := Option.some.inj hp
    refine XW.scopeG 0 (fun _ _ _ => False) 0 rfl rfl rfl ?_ (fun _ _ _ hx => hx.elim)
    simp only [headL]
    have hle : leB (G.length : Int) 0 = true := leB_t (by omega)
    simp [-Int.natCast_add, isM, xappendM, rowsIn, hb, hb1, hmx, hle, h0]
    exact ⟨rfl, h.next, rfl, Fr.newArr _ _, Nat.le_refl _, by simp [H.newArr_next], by simp [H.newArr_get]⟩
  rename_i hne
  have hpos : 0 < G.length := by omega
  have hle : leB (G.length : Int) 0 = false := leB_f (by omega)
  refine XW.scopeG 0 (RcJ h id G res) f rfl rfl rfl ?_ ?_
  · simp only [headL]
    simp [-Int.natCast_add, isM, xappendM, rowsIn, hb, hb1, hmx, hle, hpos]
    have hrow0 : ((List.replicate G.length false).map boolV)[0]? = some [.lit (.bool false)] := by
      rw [List.getElem?_map, List.getElem?_replicate, if_pos (by omega)]; rfl
    refine ⟨(List.replicate G.length false).set 0 true, [0], h.next, h.next + 1, hp, by simp, ⟨?_, ?_, ?_, ⟨[], ?_⟩, ⟨Nat.le_refl _, ?_⟩, ⟨by omega, ?_⟩, by omega, by simp⟩, ?_⟩
    · exact ((Fr.newArr _ _).putArr (Nat.le_refl _) _).newArr1 _
    · exact hG.fr (((Fr.newArr _ _).putArr (Nat.le_refl _) _).newArr1 _)
    · simp [H.newArr_get, H.putArr_get, H.putArr_next, H.newArr_next, boolV, List.map_set]
    · simp [H.newArr_get, H.putArr_next, H.newArr_next, natI, intV]
    · simp only [H.newArr_next, H.putArr_next]; omega
    · simp only [H.newArr_next, H.putArr_next]; omega
    · simp [-Int.natCast_add, isM, xappendM, rowsIn]
  · rintro n fr' h' ⟨sn, todo, sid, tid, hL, htl, ⟨iF, iG, iS, ⟨r, iT⟩, ls, lt, ine, ilen⟩, e0, e1, e2, e3, e4⟩
    simp only [cutG]
    cases n with
    | zero => simp [rLoop] at hL
    | succ n =>
    simp only [rLoop] at hL
    rcases List.eq_nil_or_concat todo with rfl | ⟨L, k, rfl⟩
    · simp only [List.getLast?_nil] at hL
      obtain rfl := Option.some.inj hL
      simp [-Int.natCast_add, isM, xappendM, rowsIn, e0, e1, e2, e3, e4]
      exact ⟨sid, by rw [ilen], iF, ls.1, ls.2, iS⟩
    · simp only [List.concat_eq_append, List.getLast?_append, List.getLast?_singleton, Option.some_or, List.dropLast_concat] at hL
      rw [List.concat_eq_append] at e4 iT htl
      simp only [List.length_append, List.length_singleton] at htl
      split at hL
      case h_1 => cases hL
      rename_i ks hks0
      split at hL
      case h_2 => cases hL
      rename_i sn2 todo2 hst
      split at hL
      case isFalse => cases hL
      rename_i ht2
      have hcap : L.length + 1 ≤ (natI (L ++ [k])).length + r.length := by simp [natI]
      have hne0 : (((L.length + 1 : Nat) : Int) == 0) = false := by simp; omega
      have hw : IntKind.i64.wrap (((L.length + 1 : Nat) : Int) - 1) = (L.length : Int) := by rw [wrapD (by omega)]; omega
      have hlt : (L.length : Int) < ((L.length + 1 : Nat) : Int) := by omega
      have hle2 : (L.length : Int) ≤ ((L.length + 1 : Nat) : Int) := by omega
      have hrowt : ((natI (L ++ [k])).map intV ++ r)[L.length]? = some [.lit (.int .i64 ((k : Nat) : Int))] := by
        rw [List.getElem?_append_left (by simp [natI]), List.getElem?_map]
        unfold natI
        rw [List.getElem?_map]
        simp [intV]
      obtain ⟨hkl, hie⟩ := List.getElem?_eq_some_iff.1 hks0
      have hkl' : (k : Int) < (G.length : Int) := by omega
      obtain ⟨gid, l, gl, gok, rfl⟩ := iG
      rw [List.length_map] at hkl
      have hrow : (l.map rrV)[k]? = some [.slc l[k].1 l[k].2.1 (l[k].2.2.map intV)] := by
        rw [List.getElem?_map, List.getElem?_eq_getElem hkl]; rfl
      have hgk := gok l[k] (List.getElem_mem hkl)
      have hks1 : l[k].2.2 = ks := by simpa using hie
      generalize hrk : l[k] = rk at hrow hgk hks1
      obtain ⟨r1, r2, ks1⟩ := rk
      simp only at hrow hgk hks1
      subst hks1
      have hkm := hm ks1 (List.mem_map.2 ⟨_, List.getElem_mem hkl, by rw [hrk]⟩)
      simp only [List.length_map] at hkl' e1 e3 ilen hn
      simp [-Int.natCast_add, isM, xappendM, rowsIn, -List.map_append, e0, e1, e2, e3, e4, hne0, hw, hlt, hle2, iT, hrowt, hcap, gl, hrow, hkl, hkl']
      refine XW.loopH (RcK h id (l.map (·.2.2)) ks1 (.slc r1 r2 (ks1.map intV)) sn2 todo2) (ks1.length + 1) ?_ ?_
      · refine ⟨0, sn, L, sid, tid, by omega, by omega, by simpa using hst, ⟨iF, ⟨gid, l, gl, gok, rfl⟩, iS, ⟨[intV (k : Nat)] ++ r, ?_⟩, ls, lt, ine, by simpa using ilen⟩, ?_⟩
        · rw [iT]
          simp [natI]
        · simp [-Int.natCast_add, isM, xappendM, rowsIn, e0, e1, e2, e3, e4, hrk]
      clear hst hne0 hw hlt hle2 hcap hrowt hrow iT iS iF gl gid gok e0 e1 e2 e3 e4 ls lt ine ilen hie hks0
      rintro m fr' h' ⟨j, sn, td, sid, tid, hm, hj, hst, ⟨iF, iG, iS, ⟨r, iT⟩, ls, lt, ine, ilen⟩, e0, e1, e2, e3, e4, e5, e6, e7⟩
      have htd := (rStep_len _ _ _ _ _ hst).1
      rcases Nat.lt_or_ge j ks1.length with hjl | hjl
      · have hjl' : (j : Int) < (ks1.length : Int) := by omega
        have z1 := (hgk (by intro h0; rw [h0] at hjl; cases hjl)).2
        subst z1
        have hwj : IntKind.i64.wrap ((j : Int) + 1) = ((j + 1 : Nat) : Int) := wrapS (a := j) (b := 1) (by omega)
        rw [List.drop_eq_getElem_cons hjl] at hst
        generalize htt : ks1[j] = t at hst
        unfold rStep at hst
        split at hst
        case isTrue => cases hst
        rename_i c2
        have t0 : 0 ≤ t := by
          apply Classical.byContradiction; intro hn; rw [ltB_t (by omega)] at c2; exact c2 rfl
        simp only [List.length_map] at e1 e3 ilen
        split at hst
        case h_1 => cases hst
        case h_2 hsn =>
          obtain ⟨q1, q2⟩ := List.getElem?_eq_some_iff.1 hsn
          have t1 : t < (l.length : Int) := by omega
          have hrowy : (sn.map boolV)[t.toNat]? = some [.lit (.bool true)] := by rw [List.getElem?_map, hsn]; rfl
          have hlit : intV t = [.lit (.int .i64 t)] := rfl
          simp [-Int.natCast_add, isM, xappendM, rowsIn, -List.map_append, e0, e1, e2, e3, e4, e5, e6, e7, hjl, hjl', ltB_t, htt, hlit, t0, t1, iS, hrowy]
          refine ⟨m - 1, by omega, j + 1, sn, td, sid, tid, by omega, by omega, hst, ⟨iF, iG, iS, ⟨r, iT⟩, ls, lt, ine, by simpa using ilen⟩, ?_⟩
          simp [-Int.natCast_add, isM, xappendM, rowsIn, e0, e1, e2, e3, e4, e5, e6, e7, hwj]
        case h_3 hsn =>
          split at hst
          · cases hst
          rename_i hm1
          have hm1' : (t == -1) = false := by simpa using hm1
          obtain ⟨q1, q2⟩ := List.getElem?_eq_some_iff.1 hsn
          have t1 : t < (l.length : Int) := by omega
          have hrowy : (sn.map boolV)[t.toNat]? = some [.lit (.bool false)] := by rw [List.getElem?_map, hsn]; rfl
          have hlit : intV t = [.lit (.int .i64 t)] := rfl
          have hnl : (natI td).length = td.length := by simp [natI]
          have n1 : tid ≠ h'.next := by omega
          have ine' : tid ≠ sid := fun h0 => ine h0.symm
          have mL : td.length + 1 ≤ maxLen := by unfold maxLen; omega
          have mB : (td.length + 1) * 8 ≤ 140737488355328 := by omega
          have htk : List.take td.length ((natI td).map intV ++ r) = (natI td).map intV := by
            rw [List.take_append_of_le_length (by simp [natI])]
            exact List.take_of_length_le (by simp [natI])
          simp [-Int.natCast_add, isM, xappendM, rowsIn, -List.map_append, e0, e1, e2, e3, e4, e5, e6, e7, hjl, hjl', ltB_t, htt, hlit, t0, t1, iS, hrowy, hm1', n1, ine', iT, hnl, mL, mB, htk]
          refine ⟨m - 1, by omega, j + 1, sn.set t.toNat true, td ++ [t.toNat], sid, h'.next + 1, by omega, by omega, hst, ⟨((iF.putArr (by omega) _).newArr1 _).moveArr (by omega) _, ?_, ?_, ⟨[], ?_⟩, ⟨ls.1, ?_⟩, ⟨by have := iF.next; omega, ?_⟩, by omega, by simpa using ilen⟩, ?_⟩
          · obtain ⟨gid, l', gl, gok⟩ := iG
            have := iF.next
            refine ⟨by simp only [H.moveArr_next, H.newArr_next, H.putArr_next]; omega, l', ?_, gok⟩
            simp only [H.moveArr_get, H.newArr_get, H.putArr_get, H.newArr_next, H.putArr_next]
            rw [if_neg (by omega), if_neg (by omega), if_neg (by omega), if_neg (by omega)]
            exact gl
          · simp only [H.moveArr_get, H.newArr_get, H.putArr_get, H.newArr_next, H.putArr_next]
            rw [if_neg (by omega), if_neg (by omega), if_neg (by omega)]
            simp [boolV, List.map_set]
          · have htn : ((t.toNat : Nat) : Int) = t := by omega
            simp [H.moveArr_get, H.newArr_next, H.putArr_next, natI, intV, htn]
          · simp only [H.moveArr_next, H.newArr_next, H.putArr_next]; omega
          · simp only [H.moveArr_next, H.newArr_next, H.putArr_next]; omega
          · have hwt : List.length (td ++ [t.toNat]) = td.length + 1 := by simp
            rw [hwt]
            simp [-Int.natCast_add, isM, xappendM, rowsIn, e0, e1, e2, e3, e4, e5, e6, e7, hwj]
      · have hje : j = ks1.length := by omega
        have hlf : ltB (j : Int) (ks1.length : Int) = false := ltB_f (by omega)
        rw [List.drop_of_length_le (by omega)] at hst
        unfold rStep at hst
        obtain ⟨rfl, rfl⟩ := Prod.mk.inj (Option.some.inj hst)
        simp [-Int.natCast_add, isM, xappendM, rowsIn, e0, e1, e2, e3, e4, e5, e6, e7, hlf]
        refine ⟨n, by omega, sn, td, sid, tid, hL, ht2, ⟨iF, iG, iS, ⟨r, iT⟩, ls, lt, ine, ilen⟩, ?_⟩
        simp [-Int.natCast_add, isM, xappendM, rowsIn, e0, e1, e2, e3, e4]
end Go.Proofs.YtjofmihdeblbmaaGreatDoor.Xa
namespace Go.Proofs.YtjofmihdeblbmaaGreatDoor.Xa
open Go Go.RowKit
set_option linter.unusedVariables false
set_option linter.unusedSimpArgs false
set_option maxRecDepth 100000
set_option maxHeartbeats 1000000
def onP (rd ps : List Bool) (k : Nat) : Bool := (rd[k]?).getD false && !((ps[k]?).getD false)
def inRow (rd ps : List Bool) : List Int → List Int → List Int
  | n, [] => n
  | n, k :: ks => if onP rd ps k.toNat then inRow rd ps (n.set k.toNat (wr ((n[k.toNat]?).getD 0 + 1))) ks else inRow rd ps n ks
def inAll (rd ps : List Bool) : Nat → List Int → Nat → List (List Int) → List Int × Nat
  | _, n, left, [] => (n, left)
  | i, n, left, ks :: G => if onP rd ps i then inAll rd ps (i + 1) (inRow rd ps n ks) (left + 1) G else inAll rd ps (i + 1) n left G
def outRow (rd ps : List Bool) : List Int → List Nat → List Int → List Int × List Nat
  | n, todo, [] => (n, todo)
  | n, todo, k :: ks => if onP rd ps k.toNat then
      (if wr ((n[k.toNat]?).getD 0 - 1) == 0 then outRow rd ps (n.set k.toNat (wr ((n[k.toNat]?).getD 0 - 1))) (todo ++ [k.toNat]) ks else outRow rd ps (n.set k.toNat (wr ((n[k.toNat]?).getD 0 - 1))) todo ks)
    else outRow rd ps n todo ks
def kahn (rd ps : List Bool) (G : List (List Int)) : Nat → Int → List Int → List Nat → Option Int
  | 0, _, _, _ => none
  | f + 1, left, n, todo => match todo.getLast? with
    | none => some left
    | some i => match G[i]? with
      | none => none
      | some ks => if (outRow rd ps n todo.dropLast ks).2.length ≤ 99000 then kahn rd ps G f (wr (left - 1)) (outRow rd ps n todo.dropLast ks).1 (outRow rd ps n todo.dropLast ks).2 else none
def todo0 (rd ps : List Bool) (n : List Int) (N : Nat) : List Nat := (List.range N).filter fun i => onP rd ps i && (n[i]?).getD 0 == 0
def cyclicP (f : Nat) (G0 : List (List Int)) (ps : List Bool) : Option Bool :=
  let G := G0.map (clRow G0.length [])
  match reachP f G with
  | none => none
  | some rd =>
    let a := inAll rd ps 0 (List.replicate G.length 0) 0 G
    (kahn rd ps G f (a.2 : Nat) a.1 (todo0 rd ps a.1 G.length)).map fun left => ltB 0 left
theorem clRow_mem (n : Nat) : ∀ (ks acc : List Int), (∀ k ∈ acc, 0 ≤ k ∧ k < (n : Int)) → ∀ k ∈ clRow n acc ks, 0 ≤ k ∧ k < (n : Int)
  | [], acc, h, k, hk => h k (by simpa [clRow] using hk)
  | x :: ks, acc, h, k, hk => by
    unfold clRow at hk
    split at hk
    · rename_i hc
      simp only [Bool.and_eq_true] at hc
      refine clRow_mem n ks (acc ++ [x]) (fun y hy => ?_) k hk
      rcases List.mem_append.1 hy with hy | hy
      · exact h y hy
      · simp at hy
        subst hy
        refine ⟨?_, ?_⟩
        · apply Classical.byContradiction; intro hn; rw [leB_f (by omega)] at hc; exact absurd hc.1.1 (by simp)
        · apply Classical.byContradiction; intro hn; rw [ltB_f (by omega)] at hc; exact absurd hc.1.2 (by simp)
    · exact clRow_mem n ks acc h k hk
theorem clRow_len (n : Nat) : ∀ (ks acc : List Int), (clRow n acc ks).length ≤ acc.length + ks.length
  | [], acc => by simp [clRow]
  | x :: ks, acc => by
    unfold clRow
    split
    · have := clRow_len n ks (acc ++ [x]); simp at this ⊢; omega
    · have := clRow_len n ks acc; simp at this ⊢; omega
theorem rLoop_len (G : List (List Int)) : ∀ (f : Nat) (s : List Bool) (td : List Nat) (res : List Bool), rLoop G f s td = some res → res.length = s.length
  | 0, s, td, res, h => by cases h
  | f + 1, s, td, res, h => by
    unfold rLoop at h
    split at h
    · obtain rfl := Option.some.inj h; rfl
    split at h
    · cases h
    split at h
    case h_2 => cases h
    rename_i s' t' hst
    split at h
    case isFalse => cases h
    rw [rLoop_len G f _ _ _ h, (rStep_len _ _ _ _ _ hst).2]
theorem reachP_len {f : Nat} {G : List (List Int)} {res : List Bool} (h : reachP f G = some res) : res.length = G.length := by
  unfold reachP at h
  split at h
  · obtain rfl := Option.some.inj h; simp; omega
  · rw [rLoop_len _ _ _ _ _ h]; simp
attribute [local simp] hid2 hid3 hid4 xcode_skip xcode_region xcode_draw xcode_loop xcode_seq xcode_cond xcode_block xcode_scope xcode_exit xcode_ret xops_nil xops_cons xd_nil xd_cons xstep_eq annot fillOf findFill findStore srcOf kcls cls qval qvalN xwant dstAt want1 xdo xop ev_const ev_global ev_func ev_zero ev_succ ev_undefs ev_hit ev_miss put_none put_len undefs_len xnil xfieldAddr fieldOf eT emtb seqQ blockQ xload xstore splice V.storable V.one V.cells mk xbinop xbin xun xbuiltin xindexAddr nilOr xindex xint cv cv1 retQ xres_tmp xres_cell xres_nil xresult xbuild xfill xbuildSlice xrows Nat.testBit places xfield item sideOk pendOk pendOf tyT1 tyT2 tyT3 tyT4 tyT5 tyT9 tyT22 tyT23 tyT24 tyT25 tyT26 tyT30 tyT34 tyT39 tyT41 tyT47 tyT48 tyT50 tyT53 tyT54 tyT56 tyT58 tyT63 tyT70 tyT76 tyT78 tyT80 tyT84 tyT87 tyT89 tyT96 tyT98 tyT100 tyT102 tyT108 tyT110 tyT112 tyT113 tyT115 tyT119 tyT121 tyT124 tyT138 tyT139 tyT141 tyT142 tyT143 tyT145 tyT147 tyT149 tyT155 tyT158 tyT164 tyT179 tyT186 tyT188 tyT189 tyT194 tyT197 tyT200 tyT216 tyT242 tyT245 H.put_get H.new_get H.row_obj H.grow_obj H.bump_obj H.newArr_obj H.putArr_obj H.moveArr_obj H.put_arr H.new_arr H.row_arr H.grow_arr H.bump_arr H.newArr_get H.putArr_get H.moveArr_get H.put_ext H.new_ext H.newArr_ext H.putArr_ext H.moveArr_ext H.bump_ext H.row_get H.grow_get H.new_next H.row_next H.bump_next H.put_next H.grow_next H.newArr_next H.putArr_next H.moveArr_next H.app_next H.app_obj H.app_arr H.app_get bne emT emM xapp_em xmakeSlice xslice xlookup xmapUpdate keyShape
theorem on_calls (h : H) (q1 q2 rid pid : Nat) (rd ps : List Bool) (o1 : h.obj q1 = some (.cells [.msl rid 0 rd.length 1] 189)) (o2 : h.obj q2 = some (.cells [.msl pid 0 ps.length 1] 189))
    (a1 : h.arr rid = some ⟨rd.map boolV, 1, 4⟩) (a2 : h.arr pid = some ⟨ps.map boolV, 1, 4⟩) (k : Nat) (hk : k < rd.length) :
    XCalls e 190 [.lit (.int .i64 (k : Nat)), .ptr q1 0, .ptr q2 0] h (fun v h' => v = .lit (.bool (onP rd ps k)) ∧ h' = h) := by
  refine XCalls.of Tryz.func190 rfl (by kernel_rfl) ?_
  rw [Tryz.ntmps190]
  have hrow : (rd.map boolV)[k]? = some [.lit (.bool rd[k])] := by rw [List.getElem?_map, List.getElem?_eq_getElem hk]; rfl
  have hk' : (k : Int) < (rd.length : Int) := by omega
  unfold onP
  rw [List.getElem?_eq_getElem hk]
  cases hb : rd[k]
  · rw [hb] at hrow
    simp [-Int.natCast_add, isM, xappendM, rowsIn, o1, o2, a1, a2, hk, hk', hrow, hb, boolV]
  · rw [hb] at hrow
    rcases Nat.lt_or_ge k ps.length with hp | hp
    · have hp' : (k : Int) < (ps.length : Int) := by omega
      have hrow2 : (ps.map boolV)[k]? = some [.lit (.bool ps[k])] := by rw [List.getElem?_map, List.getElem?_eq_getElem hp]; rfl
      cases hb2 : ps[k]
      · rw [hb2] at hrow2
        simp [-Int.natCast_add, isM, xappendM, rowsIn, o1, o2, a1, a2, hk, hk', hrow, hb, hp, hp', hrow2, hb2, ltB_t, boolV]
      · rw [hb2] at hrow2
        simp [-Int.natCast_add, isM, xappendM, rowsIn, o1, o2, a1, a2, hk, hk', hrow, hb, hp, hp', hrow2, hb2, ltB_t, boolV]
    · have hlf : ltB (k : Int) (ps.length : Int) = false := ltB_f (by omega)
      have hnone : ps[k]? = none := List.getElem?_eq_none hp
      simp [-Int.natCast_add, isM, xappendM, rowsIn, o1, o2, a1, a2, hk, hk', hrow, hb, hlf, hnone, boolV]
/-- a row of places still to be gone to -/
def TodoV (h : H) (lo : Nat) (v : V) (l : List Nat) : Prop :=
  (v = .slc 0 0 [] ∧ l = []) ∨ ∃ id r, v = .msl id 0 l.length 1 ∧ lo < id ∧ id < h.next ∧ h.arr id = some ⟨(natI l).map intV ++ r, 1, 3⟩
theorem todo_app {h : H} {lo : Nat} {v : V} {l : List Nat} (hN : TodoV h lo v l) (hl : l.length ≤ 100000) (hlo : lo < h.next) (k : Nat) :
    ∃ h3, xappendM (em [23]) 23 v (.msl h.next 0 1 1) (h.newArr ⟨[[.lit (.int .i64 (k : Nat))]], 1, 3⟩) = some (.msl (h.next + 1) 0 (l.length + 1) 1, h3) ∧ h3.obj = h.obj ∧ h3.ext = h.ext ∧ h3.next = h.next + 2 ∧
      TodoV h3 lo (.msl (h.next + 1) 0 (l.length + 1) 1) (l ++ [k]) ∧ (∀ j, j ≤ lo → h3.arr j = h.arr j) := by
  have hT : tyT 23 = some ty23 := rfl
  have hE : tyT 3 = some ty3 := rfl
  rcases hN with ⟨rfl, rfl⟩ | ⟨id, r, rfl, g1, g2, g3⟩
  · refine ⟨(h.newArr ⟨[[.lit (.int .i64 (k : Nat))]], 1, 3⟩).newArr ⟨[[.lit (.int .i64 (k : Nat))]], 1, 3⟩, ?_, rfl, rfl, rfl, .inr ⟨h.next + 1, [], by simp, by omega, by simp [H.newArr_next], by simp [H.newArr_get, H.newArr_next, natI, intV]⟩, fun j hj => ?_⟩
    · simp [-Int.natCast_add, isM, xappendM, rowsIn, hT, hE, maxLen]
    · rw [H.newArr_get, if_neg (by rw [H.newArr_next]; omega), H.newArr_get, if_neg (by omega)]
  · refine ⟨(h.newArr ⟨[[.lit (.int .i64 (k : Nat))]], 1, 3⟩).moveArr id ⟨(natI l).map intV ++ [[.lit (.int .i64 (k : Nat))]], 1, 3⟩, ?_, rfl, rfl, rfl, .inr ⟨h.next + 1, [], by simp, by omega, by simp [H.newArr_next, H.moveArr_next], by simp [H.moveArr_get, H.newArr_next, natI, intV]⟩, fun j hj => ?_⟩
    · have n1 : id ≠ h.next := by omega
      have hnl : (natI l).length = l.length := by simp [natI]
      have htk : List.take l.length ((natI l).map intV ++ r) = (natI l).map intV := by
        rw [List.take_append_of_le_length (by simp [natI])]
        exact List.take_of_length_le (by simp [natI])
      simp [-Int.natCast_add, isM, xappendM, rowsIn, -List.map_append, hT, hE, intV, maxLen, n1, g3, hnl, htk]
      omega
    · rw [H.moveArr_get, if_neg (by rw [H.newArr_next]; omega), if_neg (by omega), H.newArr_get, if_neg (by omega)]
theorem isM_todo {h : H} {lo : Nat} {v : V} {l : List Nat} (hN : TodoV h lo v l) : isM (em [23]) 23 v = true := by
  rcases hN with ⟨rfl, _⟩ | ⟨id, r, rfl, _⟩ <;> rfl
theorem TodoV.keep {h h' : H} {lo : Nat} {v : V} {l : List Nat} (x : TodoV h lo v l) (e1 : h.next ≤ h'.next) (e2 : ∀ j, lo < j → h'.arr j = h.arr j) : TodoV h' lo v l := by
  rcases x with x | ⟨id, r, g1, g2, g3, g4⟩
  · exact .inl x
  · exact .inr ⟨id, r, g1, g2, by omega, (e2 id g2).trans g4⟩
end Go.Proofs.YtjofmihdeblbmaaGreatDoor.Xa
namespace Go.Proofs.YtjofmihdeblbmaaGreatDoor.Xa
open Go Go.RowKit
set_option linter.unusedVariables false
set_option linter.unusedSimpArgs false
set_option maxRecDepth 100000
set_option maxHeartbeats 1000000
theorem inRow_len (rd ps : List Bool) : ∀ (ks n : List Int), (inRow rd ps n ks).length = n.length
  | [], n => by simp [inRow]
  | k :: ks, n => by
    unfold inRow
    split
    · rw [inRow_len rd ps ks]; simp
    · exact inRow_len rd ps ks n
theorem outRow_len (rd ps : List Bool) : ∀ (ks n : List Int) (td : List Nat), (outRow rd ps n td ks).1.length = n.length ∧ td.length ≤ (outRow rd ps n td ks).2.length
  | [], n, td => by simp [outRow]
  | k :: ks, n, td => by
    unfold outRow
    split
    · split
      · have := outRow_len rd ps ks (n.set k.toNat (wr ((n[k.toNat]?).getD 0 - 1))) (td ++ [k.toNat])
        simp at this ⊢; omega
      · have := outRow_len rd ps ks (n.set k.toNat (wr ((n[k.toNat]?).getD 0 - 1))) td
        simp at this ⊢; omega
    · exact outRow_len rd ps ks n td
/-- what stands still while Cyclic counts -/
structure CyB (hb : H) (oid sid pid q1 q2 : Nat) (l : List RR) (rd ps : List Bool) : Prop where
  lto : oid < hb.next
  arro : hb.arr oid = some ⟨l.map rrV, 1, 23⟩
  ok : RrOk l
  val : ∀ r ∈ l, ∀ k ∈ r.2.2, 0 ≤ k ∧ k < (l.length : Int)
  rows : ∀ r ∈ l, r.2.2.length ≤ 90000
  len : l.length ≤ 90000
  rlen : rd.length = l.length
  lt1 : q1 < hb.next
  lt2 : q2 < hb.next
  o1 : hb.obj q1 = some (.cells [.msl sid 0 rd.length 1] 189)
  o2 : hb.obj q2 = some (.cells [.msl pid 0 ps.length 1] 189)
  lts : sid < hb.next
  ltp : pid < hb.next
  a1 : hb.arr sid = some ⟨rd.map boolV, 1, 4⟩
  a2 : hb.arr pid = some ⟨ps.map boolV, 1, 4⟩
def onF (q1 q2 : Nat) : V := .fn 190 [.ptr q1 0, .ptr q2 0]
theorem CyB.on {hb : H} {oid sid pid q1 q2 : Nat} {l : List RR} {rd ps : List Bool} (B : CyB hb oid sid pid q1 q2 l rd ps) {h : H} (F : Fr hb h) (k : Nat) (hk : k < l.length) :
    XCalls e 190 [.lit (.int .i64 (k : Nat)), .ptr q1 0, .ptr q2 0] h (fun v h' => v = .lit (.bool (onP rd ps k)) ∧ h' = h) :=
  on_calls h q1 q2 sid pid rd ps ((F.obj q1 B.lt1).trans B.o1) ((F.obj q2 B.lt2).trans B.o2) ((F.arr sid B.lts).trans B.a1) ((F.arr pid B.ltp).trans B.a2) k (by rw [B.rlen]; exact hk)
/-- the counts, in the array that is made last -/
def CyN (hb h' : H) (n : List Int) (N : Nat) : Prop := Fr hb h' ∧ hb.next < h'.next ∧ h'.arr hb.next = some ⟨n.map intV, 1, 3⟩ ∧ n.length = N
def C1J (hb : H) (oid q1 q2 : Nat) (l : List RR) (rd ps : List Bool) (res : List Int × Nat) : Nat → List V → H → Prop := fun m fr' h' => ∃ (i left : Nat) (n : List Int), m + i = l.length + 1 ∧ i ≤ l.length ∧ left ≤ i ∧
  inAll rd ps i n left ((l.drop i).map (·.2.2)) = res ∧ CyN hb h' n l.length ∧
  fr'.length = 122 ∧ ev fr' (.tmp 0) = .msl oid 0 l.length 1 ∧ ev fr' (.tmp 6) = .msl hb.next 0 l.length 1 ∧ ev fr' (.tmp 7) = onF q1 q2 ∧ ev fr' (.tmp 8) = .lit (.int .i64 (left : Nat)) ∧
  ev fr' (.tmp 26) = .msl oid 0 l.length 1 ∧ ev fr' (.tmp 27) = .lit (.int .i64 (l.length : Nat)) ∧ ev fr' (.tmp 28) = .lit (.int .i64 (i : Nat))
def C1K (hb : H) (oid q1 q2 : Nat) (l : List RR) (rd ps : List Bool) (i left : Nat) (rv : V) (ks n2 : List Int) : Nat → List V → H → Prop := fun m fr' h' => ∃ (j : Nat) (n : List Int), m + j = ks.length + 1 ∧ j ≤ ks.length ∧
  inRow rd ps n (ks.drop j) = n2 ∧ CyN hb h' n l.length ∧
  fr'.length = 122 ∧ ev fr' (.tmp 0) = .msl oid 0 l.length 1 ∧ ev fr' (.tmp 6) = .msl hb.next 0 l.length 1 ∧ ev fr' (.tmp 7) = onF q1 q2 ∧ ev fr' (.tmp 8) = .lit (.int .i64 ((left + 1 : Nat) : Int)) ∧
  ev fr' (.tmp 26) = .msl oid 0 l.length 1 ∧ ev fr' (.tmp 27) = .lit (.int .i64 (l.length : Nat)) ∧ ev fr' (.tmp 28) = .lit (.int .i64 (i : Nat)) ∧
  ev fr' (.tmp 39) = rv ∧ ev fr' (.tmp 40) = .lit (.int .i64 (ks.length : Nat)) ∧ ev fr' (.tmp 41) = .lit (.int .i64 (j : Nat))
def C2J (hb : H) (oid q1 q2 : Nat) (l : List RR) (rd ps : List Bool) (left : Nat) (n : List Int) : Nat → List V → H → Prop := fun m fr' h' => ∃ (i : Nat) (v13 : V), m + i = l.length + 1 ∧ i ≤ l.length ∧
  CyN hb h' n l.length ∧ TodoV h' hb.next v13 (todo0 rd ps n i) ∧
  fr'.length = 122 ∧ ev fr' (.tmp 0) = .msl oid 0 l.length 1 ∧ ev fr' (.tmp 6) = .msl hb.next 0 l.length 1 ∧ ev fr' (.tmp 7) = onF q1 q2 ∧ ev fr' (.tmp 8) = .lit (.int .i64 (left : Nat)) ∧ ev fr' (.tmp 13) = v13 ∧
  ev fr' (.tmp 57) = .lit (.int .i64 (l.length : Nat)) ∧ ev fr' (.tmp 58) = .lit (.int .i64 (i : Nat))
def C3J (hb : H) (oid q1 q2 : Nat) (l : List RR) (rd ps : List Bool) (res : Int) : Nat → List V → H → Prop := fun m fr' h' => ∃ (left : Int) (n : List Int) (td : List Nat) (v13 : V), kahn rd ps (l.map (·.2.2)) m left n td = some res ∧ td.length ≤ 99000 ∧
  CyN hb h' n l.length ∧ TodoV h' hb.next v13 td ∧
  fr'.length = 122 ∧ ev fr' (.tmp 0) = .msl oid 0 l.length 1 ∧ ev fr' (.tmp 6) = .msl hb.next 0 l.length 1 ∧ ev fr' (.tmp 7) = onF q1 q2 ∧ ev fr' (.tmp 8) = .lit (.int .i64 left) ∧ ev fr' (.tmp 13) = v13
def C3K (hb : H) (oid q1 q2 : Nat) (l : List RR) (rd ps : List Bool) (left : Int) (rv : V) (ks : List Int) (r : List Int × List Nat) : Nat → List V → H → Prop := fun m fr' h' => ∃ (j : Nat) (n : List Int) (td : List Nat) (v13 : V), m + j = ks.length + 1 ∧ j ≤ ks.length ∧
  outRow rd ps n td (ks.drop j) = r ∧ CyN hb h' n l.length ∧ TodoV h' hb.next v13 td ∧
  fr'.length = 122 ∧ ev fr' (.tmp 0) = .msl oid 0 l.length 1 ∧ ev fr' (.tmp 6) = .msl hb.next 0 l.length 1 ∧ ev fr' (.tmp 7) = onF q1 q2 ∧ ev fr' (.tmp 8) = .lit (.int .i64 left) ∧ ev fr' (.tmp 13) = v13 ∧
  ev fr' (.tmp 95) = rv ∧ ev fr' (.tmp 96) = .lit (.int .i64 (ks.length : Nat)) ∧ ev fr' (.tmp 97) = .lit (.int .i64 (j : Nat))
attribute [local simp] hid2 hid3 hid4 xcode_skip xcode_region xcode_draw xcode_loop xcode_seq xcode_cond xcode_block xcode_scope xcode_exit xcode_ret xops_nil xops_cons xd_nil xd_cons xstep_eq annot fillOf findFill findStore srcOf kcls cls qval qvalN xwant dstAt want1 xdo xop ev_const ev_global ev_func ev_zero ev_succ ev_undefs ev_hit ev_miss put_none put_len undefs_len xnil xfieldAddr fieldOf eT emtb seqQ blockQ xload xstore splice V.storable V.one V.cells mk xbinop xbin xun xbuiltin xindexAddr nilOr xindex xint cv cv1 retQ xres_tmp xres_cell xres_nil xresult xbuild xfill xbuildSlice xrows Nat.testBit places xfield item sideOk pendOk pendOf tyT1 tyT2 tyT3 tyT4 tyT5 tyT9 tyT22 tyT23 tyT24 tyT25 tyT26 tyT30 tyT34 tyT39 tyT41 tyT47 tyT48 tyT50 tyT53 tyT54 tyT56 tyT58 tyT63 tyT70 tyT76 tyT78 tyT80 tyT84 tyT87 tyT89 tyT96 tyT98 tyT100 tyT102 tyT108 tyT110 tyT112 tyT113 tyT115 tyT119 tyT121 tyT124 tyT138 tyT139 tyT141 tyT142 tyT143 tyT145 tyT147 tyT149 tyT155 tyT158 tyT164 tyT179 tyT186 tyT188 tyT189 tyT194 tyT197 tyT200 tyT216 tyT242 tyT245 H.put_get H.new_get H.row_obj H.grow_obj H.bump_obj H.newArr_obj H.putArr_obj H.moveArr_obj H.put_arr H.new_arr H.row_arr H.grow_arr H.bump_arr H.newArr_get H.putArr_get H.moveArr_get H.put_ext H.new_ext H.newArr_ext H.putArr_ext H.moveArr_ext H.bump_ext H.row_get H.grow_get H.new_next H.row_next H.bump_next H.put_next H.grow_next H.newArr_next H.putArr_next H.moveArr_next H.app_next H.app_obj H.app_arr H.app_get bne emT emM xapp_em xmakeSlice xslice xlookup xmapUpdate keyShape
theorem cyclic_calls (h : H) (gid pid : Nat) (G0 : List (List Int)) (ps : List Bool) (hG : GrR h gid G0) (hp1 : h.arr pid = some ⟨ps.map boolV, 1, 4⟩) (hp2 : pid < h.next) (hn : G0.length ≤ 90000) (hm : ∀ r ∈ G0, r.length ≤ 90000) (f : Nat) (res : Bool) (hp : cyclicP f G0 ps = some res) :
    XCalls e 143 [.msl gid 0 G0.length 1, .msl pid 0 ps.length 1] h (fun v h' => v = .lit (.bool res) ∧ Fr h h') := by
  refine XCalls.ofM [23] ?_
  refine XCalls.of Tryz.func143 rfl (by kernel_rfl) ?_
  rw [Tryz.ntmps143]
  unfold cyclicP at hp
  simp only at hp
  split at hp
  · cases hp
  rename_i rd hrd
  obtain ⟨fin, hk, rfl⟩ := Option.map_eq_some_iff.1 hp
  simp [-Int.natCast_add, isM, xappendM, rowsIn]
  refine (clean_calls _ gid G0 (hG.fr (Fr.new _ _)) hn hm).mono ?_
  rintro _ h2 ⟨oid, rfl, hF2, hoid, hG2⟩
  have hlen : (G0.map (clRow G0.length [])).length = G0.length := by simp
  have hval : ∀ r ∈ G0.map (clRow G0.length []), ∀ k ∈ r, 0 ≤ k ∧ k < (G0.length : Int) := by
    intro r hr k hkr
    obtain ⟨r0, _, rfl⟩ := List.mem_map.1 hr
    exact clRow_mem _ r0 [] (by simp) k hkr
  have hrows : ∀ r ∈ G0.map (clRow G0.length []), r.length ≤ 90000 := by
    intro r hr
    obtain ⟨r0, h0, rfl⟩ := List.mem_map.1 hr
    have := clRow_len G0.length r0 []
    have := hm r0 h0
    simp at *
    omega
  generalize G0.map (clRow G0.length []) = G at hG2 hrd hk hlen hval hrows
  rw [← hlen] at hn hval ⊢
  clear hm hG hp hlen G0
  simp [-Int.natCast_add, isM, xappendM, rowsIn]
  refine (reach_calls h2 oid G hG2 hn hrows f rd hrd).mono ?_
  rintro _ h3 ⟨sid, rfl, hF3, hsid, hsid2, hs3⟩
  have hrl := reachP_len hrd
  obtain ⟨gid3, l, gl3, gok, rfl⟩ := hG2.fr hF3
  have hn2 := hF2.next
  have hn3 := hF3.next
  simp only [H.new_next] at hn2
  have o2 := (hF3.obj h.next (by omega)).trans ((hF2.obj h.next (by simp only [H.new_next]; omega)).trans (H.new_self _ _))
  have hp3 := (hF3.arr pid (by omega)).trans ((hF2.arr pid (by simp only [H.new_next]; omega)).trans hp1)
  simp only [List.length_map] at hn hval hrl hk ⊢
  have hb : (8 : Int) * (l.length : Nat) ≤ 281474976710656 := by omega
  have hmx : l.length ≤ maxLen := by unfold maxLen; omega
  simp [-Int.natCast_add, isM, xappendM, rowsIn, hb, hmx]
  have B : CyB ((h3.new (.cells [.slc 0 0 []] 189)).put h3.next (.cells [.msl sid 0 rd.length 1] 189)) oid sid pid h3.next h.next l rd ps := by
    have f4 : Fr h3 ((h3.new (.cells [.slc 0 0 []] 189)).put h3.next (.cells [.msl sid 0 rd.length 1] 189)) := (Fr.new _ _).put (Nat.le_refl _) _
    refine ⟨by simp only [H.put_next, H.new_next]; omega, (f4.arr oid gid3).trans gl3, gok, ?_, ?_, hn, by rw [hrl], by simp only [H.put_next, H.new_next]; omega, by simp only [H.put_next, H.new_next]; omega, H.put_same _ _ _, (f4.obj h.next (by omega)).trans o2, by simp only [H.put_next, H.new_next]; omega, by simp only [H.put_next, H.new_next]; omega, (f4.arr sid hsid2).trans hs3, (f4.arr pid (by omega)).trans hp3⟩
    · intro r hr
      exact hval r.2.2 (List.mem_map.2 ⟨r, hr, rfl⟩)
    · intro r hr
      exact hrows r.2.2 (List.mem_map.2 ⟨r, hr, rfl⟩)
  have hFb : Fr h ((h3.new (.cells [.slc 0 0 []] 189)).put h3.next (.cells [.msl sid 0 rd.length 1] 189)) := (((Fr.new _ _).trans hF2).trans hF3).trans ((Fr.new _ _).put (Nat.le_refl _) _)
  have hbn : ((h3.new (.cells [.slc 0 0 []] 189)).put h3.next (.cells [.msl sid 0 rd.length 1] 189)).next = h3.next + 1 := rfl
  generalize ((h3.new (.cells [.slc 0 0 []] 189)).put h3.next (.cells [.msl sid 0 rd.length 1] 189)) = hb at B hFb hbn ⊢
  generalize h3.next = q1 at B hbn ⊢
  generalize h.next = q2 at B ⊢
  clear o2 hp3 hs3 hsid hsid2 gl3 gok gid3 hn2 hn3 hoid hp1 hp2 hval hrows hG2 hF3 hF2
  have lto := B.lto
  generalize hia : inAll rd ps 0 (List.replicate l.length 0) 0 (l.map (·.2.2)) = ia at hk
  refine XW.loopH (C1J hb oid q1 q2 l rd ps ia) (l.length + 1) ?_ ?_
  · refine ⟨0, 0, List.replicate l.length 0, by omega, by omega, by omega, by simpa using hia, ⟨Fr.newArr _ _, by simp only [H.newArr_next]; omega, by simp [H.newArr_get, intV], by simp⟩, ?_⟩
    simp [-Int.natCast_add, isM, xappendM, rowsIn, hbn, onF]
  rintro m fr' h' ⟨i, left, n, hmi, hi, hle, hres, ⟨hF, hnx, ha, hnl⟩, e0, e1, e2, e3, e4, e5, e6, e7⟩
  unfold onF at e3
  rcases Nat.lt_or_ge i l.length with hil | hil
  · have hil' : (i : Int) < (l.length : Int) := by omega
    have hw : IntKind.i64.wrap ((i : Int) + 1) = ((i + 1 : Nat) : Int) := wrapS (a := i) (b := 1) (by omega)
    have hwl : IntKind.i64.wrap ((left : Int) + 1) = ((left + 1 : Nat) : Int) := wrapS (a := left) (b := 1) (by omega)
    have hl' := (hF.arr oid lto).trans B.arro
    rw [List.drop_eq_getElem_cons hil, List.map_cons] at hres
    have hrow : (l.map rrV)[i]? = some [.slc l[i].1 l[i].2.1 (l[i].2.2.map intV)] := by
      rw [List.getElem?_map, List.getElem?_eq_getElem hil]; rfl
    have hok1 := B.ok l[i] (List.getElem_mem hil)
    have hv1 := B.val l[i] (List.getElem_mem hil)
    have hr1 := B.rows l[i] (List.getElem_mem hil)
    generalize hri : l[i] = ri at hrow hok1 hv1 hr1 hres
    obtain ⟨r1, r2, ks⟩ := ri
    simp only at hrow hok1 hv1 hr1 hres
    unfold inAll at hres
    simp [-Int.natCast_add, isM, xappendM, rowsIn, -List.map_append, e0, e1, e2, e3, e4, e5, e6, e7, hil, hil', ltB_t, hl', hrow]
    refine (B.on hF i hil).mono ?_
    rintro _ h5 ⟨rfl, eh⟩
    rw [eh]
    clear eh h5
    cases hon : onP rd ps i
    · simp only [hon, Bool.false_eq_true, if_false] at hres
      simp [-Int.natCast_add, isM, xappendM, rowsIn, -List.map_append, e0, e1, e2, e3, e4, e5, e6, e7, hon]
      refine ⟨m - 1, by omega, i + 1, left, n, by omega, by omega, by omega, hres, ⟨hF, hnx, ha, hnl⟩, ?_⟩
      simp [-Int.natCast_add, isM, xappendM, rowsIn, e0, e1, e2, e3, e4, e5, e6, e7, hw, onF]
    · simp only [hon, if_true] at hres
      simp [-Int.natCast_add, isM, xappendM, rowsIn, -List.map_append, e0, e1, e2, e3, e4, e5, e6, e7, hon]
      generalize hn2 : inRow rd ps n ks = n2 at hres
      refine XW.loopH (C1K hb oid q1 q2 l rd ps i left (.slc r1 r2 (ks.map intV)) ks n2) (ks.length + 1) ?_ ?_
      · refine ⟨0, n, by omega, by omega, by simpa using hn2, ⟨hF, hnx, ha, hnl⟩, ?_⟩
        simp [-Int.natCast_add, isM, xappendM, rowsIn, e0, e1, e2, e3, e4, e5, e6, e7, hwl, hri, onF]
      clear e0 e1 e2 e3 e4 e5 e6 e7 hF hnx ha hl' hnl hn2
      rintro m' fr' h' ⟨j, n, hmj, hj, hn2, ⟨hF, hnx, ha, hnl⟩, e0, e1, e2, e3, e4, e5, e6, e7, e8, e9, e10⟩
      unfold onF at e3
      rcases Nat.lt_or_ge j ks.length with hjl | hjl
      · have hjl' : (j : Int) < (ks.length : Int) := by omega
        have z1 := (hok1 (by intro h0; rw [h0] at hjl; cases hjl)).2
        subst z1
        have hwj : IntKind.i64.wrap ((j : Int) + 1) = ((j + 1 : Nat) : Int) := wrapS (a := j) (b := 1) (by omega)
        rw [List.drop_eq_getElem_cons hjl] at hn2
        have hvt := hv1 ks[j] (List.getElem_mem hjl)
        generalize htt : ks[j] = t at hn2 hvt
        obtain ⟨t0, t1⟩ := hvt
        obtain ⟨k, rfl⟩ := Int.eq_ofNat_of_zero_le t0
        have hkl : k < l.length := by omega
        have hlit : intV ((k : Nat) : Int) = [.lit (.int .i64 (k : Nat))] := rfl
        unfold inRow at hn2
        simp only [Int.toNat_natCast] at hn2
        simp [-Int.natCast_add, isM, xappendM, rowsIn, -List.map_append, e0, e1, e2, e3, e4, e5, e6, e7, e8, e9, e10, hjl, hjl', ltB_t, htt, hlit]
        refine (B.on hF k hkl).mono ?_
        rintro _ h5 ⟨rfl, eh⟩
        rw [eh]
        clear eh h5
        cases hon2 : onP rd ps k
        · simp only [hon2, Bool.false_eq_true, if_false] at hn2
          simp [-Int.natCast_add, isM, xappendM, rowsIn, -List.map_append, e0, e1, e2, e3, e4, e5, e6, e7, e8, e9, e10, hon2]
          refine ⟨m' - 1, by omega, j + 1, n, by omega, by omega, hn2, ⟨hF, hnx, ha, hnl⟩, ?_⟩
          simp [-Int.natCast_add, isM, xappendM, rowsIn, e0, e1, e2, e3, e4, e5, e6, e7, e8, e9, e10, hwj, onF]
        · simp only [hon2, if_true] at hn2
          obtain ⟨x, hx⟩ : ∃ x, n[k]? = some x := ⟨_, List.getElem?_eq_getElem (by omega)⟩
          have hrowx : (n.map intV)[k]? = some [.lit (.int .i64 x)] := by rw [List.getElem?_map, hx]; rfl
          rw [hx] at hn2
          simp only [Option.getD_some] at hn2
          simp [-Int.natCast_add, isM, xappendM, rowsIn, -List.map_append, e0, e1, e2, e3, e4, e5, e6, e7, e8, e9, e10, hon2, ha, hrowx, hkl, t1]
          refine ⟨m' - 1, by omega, j + 1, n.set k (wr (x + 1)), by omega, by omega, hn2, ⟨hF.putArr (Nat.le_refl _) _, by simp only [H.putArr_next]; exact hnx, ?_, by simpa using hnl⟩, ?_⟩
          · rw [H.putArr_get, if_pos rfl]
            simp [List.map_set, intV, wr]
          · simp [-Int.natCast_add, isM, xappendM, rowsIn, e0, e1, e2, e3, e4, e5, e6, e7, e8, e9, e10, hwj, onF]
      · have hlf : ltB (j : Int) (ks.length : Int) = false := ltB_f (by omega)
        rw [List.drop_of_length_le (by omega)] at hn2
        unfold inRow at hn2
        subst hn2
        simp [-Int.natCast_add, isM, xappendM, rowsIn, -List.map_append, e0, e1, e2, e3, e4, e5, e6, e7, e8, e9, e10, hlf]
        refine ⟨m - 1, by omega, i + 1, left + 1, n, by omega, by omega, by omega, hres, ⟨hF, hnx, ha, hnl⟩, ?_⟩
        simp [-Int.natCast_add, isM, xappendM, rowsIn, e0, e1, e2, e3, e4, e5, e6, e7, e8, e9, e10, hw, onF]
  · have hlf : ltB (i : Int) (l.length : Int) = false := ltB_f (by omega)
    rw [List.drop_of_length_le (by omega)] at hres
    simp only [List.map_nil, inAll] at hres
    subst hres
    simp only at hk
    simp [-Int.natCast_add, isM, xappendM, rowsIn, -List.map_append, e0, e1, e2, e3, e4, e5, e6, e7, hlf]
    refine XW.loopH (C2J hb oid q1 q2 l rd ps left n) (l.length + 1) ?_ ?_
    · refine ⟨0, .slc 0 0 [], by omega, by omega, ⟨hF, hnx, ha, hnl⟩, .inl ⟨rfl, rfl⟩, ?_⟩
      simp [-Int.natCast_add, isM, xappendM, rowsIn, e0, e1, e2, e3, e4, e5, e6, e7, onF]
    clear e0 e1 e2 e3 e4 e5 e6 e7 hF hnx ha hnl hlf hmi
    rintro m fr' h' ⟨i, v13, hmi, hi, ⟨hF, hnx, ha, hnl⟩, hT, e0, e1, e2, e3, e4, e5, e6, e7⟩
    unfold onF at e3
    rcases Nat.lt_or_ge i l.length with hil | hil
    · have hil' : (i : Int) < (l.length : Int) := by omega
      have hw : IntKind.i64.wrap ((i : Int) + 1) = ((i + 1 : Nat) : Int) := wrapS (a := i) (b := 1) (by omega)
      have htd : todo0 rd ps n (i + 1) = todo0 rd ps n i ++ (if onP rd ps i && (n[i]?).getD 0 == 0 then [i] else []) := by
        unfold todo0
        rw [List.range_succ, List.filter_append]
        simp [List.filter]
        split <;> simp_all
      obtain ⟨x, hx⟩ : ∃ x, n[i]? = some x := ⟨_, List.getElem?_eq_getElem (by omega)⟩
      have hrowx : (n.map intV)[i]? = some [.lit (.int .i64 x)] := by rw [List.getElem?_map, hx]; rfl
      rw [hx] at htd
      simp only [Option.getD_some] at htd
      simp [-Int.natCast_add, isM, xappendM, rowsIn, -List.map_append, e0, e1, e2, e3, e4, e5, e6, e7, hil, hil', ltB_t]
      refine (B.on hF i hil).mono ?_
      rintro _ h5 ⟨rfl, eh⟩
      rw [eh]
      clear eh h5
      cases hon : onP rd ps i
      · simp only [hon, Bool.false_and, Bool.false_eq_true, if_false, List.append_nil] at htd
        simp [-Int.natCast_add, isM, xappendM, rowsIn, -List.map_append, e0, e1, e2, e3, e4, e5, e6, e7, hon]
        refine ⟨m - 1, by omega, i + 1, v13, by omega, by omega, ⟨hF, hnx, ha, hnl⟩, by rw [htd]; exact hT, ?_⟩
        simp [-Int.natCast_add, isM, xappendM, rowsIn, e0, e1, e2, e3, e4, e5, e6, e7, hw, onF]
      · cases hx0 : (x == 0)
        · simp only [hon, hx0, Bool.and_false, Bool.false_eq_true, if_false, List.append_nil] at htd
          simp [-Int.natCast_add, isM, xappendM, rowsIn, -List.map_append, e0, e1, e2, e3, e4, e5, e6, e7, hon, ha, hrowx, hil, hil', hx0]
          refine ⟨m - 1, by omega, i + 1, v13, by omega, by omega, ⟨hF, hnx, ha, hnl⟩, by rw [htd]; exact hT, ?_⟩
          simp [-Int.natCast_add, isM, xappendM, rowsIn, e0, e1, e2, e3, e4, e5, e6, e7, hw, onF]
        · simp only [hon, hx0, Bool.and_true, if_true] at htd
          have htl : (todo0 rd ps n i).length ≤ 100000 := by
            have := List.length_filter_le (fun i => onP rd ps i && (n[i]?).getD 0 == 0) (List.range i)
            unfold todo0
            simp at this
            omega
          have hM := isM_todo hT
          obtain ⟨h3, y1, y2, y3, y4, y5, y6⟩ := todo_app hT htl hnx i
          simp [-Int.natCast_add, -List.map_append, e0, e1, e2, e3, e4, e5, e6, e7, hon, ha, hrowx, hil, hil', hx0, hM, y1]
          have hF3 : Fr hb h3 := ⟨by have := hF.next; omega, fun j hj => by rw [y2]; exact hF.obj j hj, fun j hj => by rw [y3]; exact hF.ext j hj, fun j hj => (y6 j (by omega)).trans (hF.arr j hj)⟩
          refine ⟨m - 1, by omega, i + 1, .msl (h'.next + 1) 0 ((todo0 rd ps n i).length + 1) 1, by omega, by omega, ⟨hF3, by omega, (y6 _ (Nat.le_refl _)).trans ha, hnl⟩, by rw [htd]; exact y5, ?_⟩
          simp [-Int.natCast_add, isM, xappendM, rowsIn, e0, e1, e2, e3, e4, e5, e6, e7, hw, onF]
    · have hie : i = l.length := by omega
      have hlf : ltB (i : Int) (l.length : Int) = false := ltB_f (by omega)
      rw [hie] at hT
      have htl : (todo0 rd ps n l.length).length ≤ 99000 := by
        have := List.length_filter_le (fun i => onP rd ps i && (n[i]?).getD 0 == 0) (List.range l.length)
        unfold todo0
        simp at this
        omega
      simp [-Int.natCast_add, isM, xappendM, rowsIn, -List.map_append, e0, e1, e2, e3, e4, e5, e6, e7, hlf]
      refine XW.loopH (C3J hb oid q1 q2 l rd ps fin) f ?_ ?_
      · refine ⟨left, n, _, v13, by simpa using hk, htl, ⟨hF, hnx, ha, hnl⟩, hT, ?_⟩
        simp [-Int.natCast_add, isM, xappendM, rowsIn, e0, e1, e2, e3, e4, e5, e6, e7, onF]
      clear e0 e1 e2 e3 e4 e5 e6 e7 hF hnx ha hnl hlf hmi hT hk htl
      rintro m fr' h' ⟨left, n, td, v13, hk, htl, ⟨hF, hnx, ha, hnl⟩, hT, e0, e1, e2, e3, e4, e5⟩
      unfold onF at e3
      cases m with
      | zero => simp [kahn] at hk
      | succ m =>
      simp only [kahn] at hk
      rcases List.eq_nil_or_concat td with rfl | ⟨L, k, rfl⟩
      · simp only [List.getLast?_nil] at hk
        obtain rfl := Option.some.inj hk
        have hlf : ltB 0 0 = false := rfl
        rcases hT with ⟨rfl, _⟩ | ⟨tid, r, rfl, _⟩
        · simp [-Int.natCast_add, isM, xappendM, rowsIn, -List.map_append, e0, e1, e2, e3, e4, e5, hlf]
          exact hFb.trans hF
        · simp [-Int.natCast_add, isM, xappendM, rowsIn, -List.map_append, e0, e1, e2, e3, e4, e5, hlf]
          exact hFb.trans hF
      · simp only [List.concat_eq_append, List.getLast?_append, List.getLast?_singleton, Option.some_or, List.dropLast_concat] at hk
        rw [List.concat_eq_append] at hT htl
        simp only [List.length_append, List.length_singleton] at htl
        split at hk
        case h_1 => cases hk
        rename_i ks hks0
        split at hk
        case isFalse => cases hk
        rename_i htl2
        obtain ⟨hkl, hie2⟩ := List.getElem?_eq_some_iff.1 hks0
        rw [List.length_map] at hkl
        have hkl' : (k : Int) < (l.length : Int) := by omega
        rcases hT with ⟨_, hn0⟩ | ⟨tid, r, rfl, t1, t2, t3⟩
        · simp at hn0
        have hcap : L.length + 1 ≤ (natI (L ++ [k])).length + r.length := by simp [natI]
        have hpos : ltB 0 (((L.length + 1 : Nat) : Int)) = true := ltB_t (by omega)
        have hw : IntKind.i64.wrap (((L.length + 1 : Nat) : Int) - 1) = (L.length : Int) := by rw [wrapD (by omega)]; omega
        have hlt : (L.length : Int) < ((L.length + 1 : Nat) : Int) := by omega
        have hle2 : (L.length : Int) ≤ ((L.length + 1 : Nat) : Int) := by omega
        have hrowt : ((natI (L ++ [k])).map intV ++ r)[L.length]? = some [.lit (.int .i64 ((k : Nat) : Int))] := by
          rw [List.getElem?_append_left (by simp [natI]), List.getElem?_map]
          unfold natI
          rw [List.getElem?_map]
          simp [intV]
        have hl' := (hF.arr oid lto).trans B.arro
        have hrow : (l.map rrV)[k]? = some [.slc l[k].1 l[k].2.1 (l[k].2.2.map intV)] := by
          rw [List.getElem?_map, List.getElem?_eq_getElem hkl]; rfl
        have hok1 := B.ok l[k] (List.getElem_mem hkl)
        have hv1 := B.val l[k] (List.getElem_mem hkl)
        have hr1 := B.rows l[k] (List.getElem_mem hkl)
        have hks1 : l[k].2.2 = ks := by simpa using hie2
        generalize hrk : l[k] = rk at hrow hok1 hv1 hr1 hks1
        obtain ⟨r1, r2, ks1⟩ := rk
        simp only at hrow hok1 hv1 hr1 hks1
        subst hks1
        simp only [List.length_append, List.length_singleton] at e5
        simp [-Int.natCast_add, isM, xappendM, rowsIn, -List.map_append, e0, e1, e2, e3, e4, e5, hpos, hw, hlt, hle2, t3, hrowt, hcap, hl', hrow, hkl, hkl']
        generalize hoo : outRow rd ps n L ks1 = oo at hk htl2
        refine XW.loopH (C3K hb oid q1 q2 l rd ps (wr (left - 1)) (.slc r1 r2 (ks1.map intV)) ks1 oo) (ks1.length + 1) ?_ ?_
        · refine ⟨0, n, L, .msl tid 0 L.length 1, by omega, by omega, by simpa using hoo, ⟨hF, hnx, ha, hnl⟩, .inr ⟨tid, [intV (k : Nat)] ++ r, rfl, t1, t2, ?_⟩, ?_⟩
          · rw [t3]
            simp [natI]
          · simp [-Int.natCast_add, isM, xappendM, rowsIn, e0, e1, e2, e3, e4, e5, onF, hrk, wr]
        have hmk := hk
        clear hoo e0 e1 e2 e3 e4 e5 hF hnx ha hnl t3 t1 t2 hrowt hcap hlt hle2 hw hpos hl' hk
        rintro m' fr' h' ⟨j, n, td, v13, hmj, hj, hoo, ⟨hF, hnx, ha, hnl⟩, hT, e0, e1, e2, e3, e4, e5, e6, e7, e8⟩
        unfold onF at e3
        have htdl := (outRow_len rd ps (ks1.drop j) n td).2
        rw [hoo] at htdl
        rcases Nat.lt_or_ge j ks1.length with hjl | hjl
        · have hjl' : (j : Int) < (ks1.length : Int) := by omega
          have z1 := (hok1 (by intro h0; rw [h0] at hjl; cases hjl)).2
          subst z1
          have hwj : IntKind.i64.wrap ((j : Int) + 1) = ((j + 1 : Nat) : Int) := wrapS (a := j) (b := 1) (by omega)
          rw [List.drop_eq_getElem_cons hjl] at hoo
          have hvt := hv1 ks1[j] (List.getElem_mem hjl)
          generalize htt : ks1[j] = t at hoo hvt
          obtain ⟨t0, t1⟩ := hvt
          obtain ⟨k2, rfl⟩ := Int.eq_ofNat_of_zero_le t0
          have hk2 : k2 < l.length := by omega
          have hlit : intV ((k2 : Nat) : Int) = [.lit (.int .i64 (k2 : Nat))] := rfl
          unfold outRow at hoo
          simp only [Int.toNat_natCast] at hoo
          simp [-Int.natCast_add, isM, xappendM, rowsIn, -List.map_append, e0, e1, e2, e3, e4, e5, e6, e7, e8, hjl, hjl', ltB_t, htt, hlit]
          refine (B.on hF k2 hk2).mono ?_
          rintro _ h5 ⟨rfl, eh⟩
          rw [eh]
          clear eh h5
          cases hon2 : onP rd ps k2
          · simp only [hon2, Bool.false_eq_true, if_false] at hoo
            simp [-Int.natCast_add, isM, xappendM, rowsIn, -List.map_append, e0, e1, e2, e3, e4, e5, e6, e7, e8, hon2]
            refine ⟨m' - 1, by omega, j + 1, n, td, v13, by omega, by omega, hoo, ⟨hF, hnx, ha, hnl⟩, hT, ?_⟩
            simp [-Int.natCast_add, isM, xappendM, rowsIn, e0, e1, e2, e3, e4, e5, e6, e7, e8, hwj, onF]
          · simp only [hon2, if_true] at hoo
            obtain ⟨x, hx⟩ : ∃ x, n[k2]? = some x := ⟨_, List.getElem?_eq_getElem (by omega)⟩
            have hrowx : (n.map intV)[k2]? = some [.lit (.int .i64 x)] := by rw [List.getElem?_map, hx]; rfl
            rw [hx] at hoo
            simp only [Option.getD_some] at hoo
            have hkn : k2 < n.length := by omega
            have hFp := hF.putArr (Nat.le_refl _) ⟨(n.map intV).set k2 [.lit (.int .i64 (wr (x - 1)))], 1, 3⟩
            have hTp : TodoV (h'.putArr hb.next ⟨(n.map intV).set k2 [.lit (.int .i64 (wr (x - 1)))], 1, 3⟩) hb.next v13 td := hT.keep (by simp only [H.putArr_next]; omega) (fun j hj => by rw [H.putArr_get, if_neg (by omega)])
            have hap : (h'.putArr hb.next ⟨(n.map intV).set k2 [.lit (.int .i64 (wr (x - 1)))], 1, 3⟩).arr hb.next = some ⟨(n.set k2 (wr (x - 1))).map intV, 1, 3⟩ := by
              rw [H.putArr_get, if_pos rfl]
              simp [List.map_set, intV]
            have hrow2 : ((n.map intV).set k2 [.lit (.int .i64 (IntKind.i64.wrap (x - 1)))])[k2]? = some [.lit (.int .i64 (IntKind.i64.wrap (x - 1)))] := List.getElem?_set_self (by simpa using hkn)
            cases hx0 : (wr (x - 1) == 0)
            · simp only [hx0, Bool.false_eq_true, if_false] at hoo
              unfold wr at hx0 hFp hTp hap
              simp [-Int.natCast_add, isM, xappendM, rowsIn, -List.map_append, e0, e1, e2, e3, e4, e5, e6, e7, e8, hon2, ha, hrowx, hk2, t1, hrow2, hx0]
              refine ⟨m' - 1, by omega, j + 1, n.set k2 (wr (x - 1)), td, v13, by omega, by omega, hoo, ⟨hFp, by simp only [H.putArr_next]; exact hnx, hap, by simpa using hnl⟩, hTp, ?_⟩
              simp [-Int.natCast_add, isM, xappendM, rowsIn, e0, e1, e2, e3, e4, e5, e6, e7, e8, hwj, onF]
            · simp only [hx0, if_true] at hoo
              have hM := isM_todo hTp
              have htl3 := (outRow_len rd ps (ks1.drop (j + 1)) (n.set k2 (wr (x - 1))) (td ++ [k2])).2
              rw [hoo] at htl3
              simp only [List.length_append, List.length_singleton] at htl3
              obtain ⟨h3, y1, y2, y3, y4, y5, y6⟩ := todo_app hTp (by omega) (by simp only [H.putArr_next]; exact hnx) k2
              have hF3 : Fr hb h3 := ⟨by rw [y4, H.putArr_next]; have := hF.next; omega, fun j hj => by rw [y2]; exact hFp.obj j hj, fun j hj => by rw [y3]; exact hFp.ext j hj, fun j hj => (y6 j (by omega)).trans (hFp.arr j hj)⟩
              simp only [H.putArr_next] at y1 y4 y5
              have hap3 := (y6 _ (Nat.le_refl _)).trans hap
              unfold wr at hx0 hFp hTp hap y1 hM
              simp [-Int.natCast_add, -List.map_append, e0, e1, e2, e3, e4, e5, e6, e7, e8, hon2, ha, hrowx, hk2, t1, hrow2, hx0, hM, y1]
              refine ⟨m' - 1, by omega, j + 1, n.set k2 (wr (x - 1)), td ++ [k2], .msl (h'.next + 1) 0 (td.length + 1) 1, by omega, by omega, hoo, ⟨hF3, by omega, hap3, by simpa using hnl⟩, y5, ?_⟩
              simp [-Int.natCast_add, isM, xappendM, rowsIn, e0, e1, e2, e3, e4, e5, e6, e7, e8, hwj, onF]
        · have hlf : ltB (j : Int) (ks1.length : Int) = false := ltB_f (by omega)
          rw [List.drop_of_length_le (by omega)] at hoo
          unfold outRow at hoo
          subst hoo
          simp [-Int.natCast_add, isM, xappendM, rowsIn, -List.map_append, e0, e1, e2, e3, e4, e5, e6, e7, e8, hlf]
          refine ⟨m, by omega, wr (left - 1), n, td, v13, hmk, htl2, ⟨hF, hnx, ha, hnl⟩, hT, ?_⟩
          simp [-Int.natCast_add, isM, xappendM, rowsIn, e0, e1, e2, e3, e4, e5, e6, e7, e8, onF]
end Go.Proofs.YtjofmihdeblbmaaGreatDoor.Xa

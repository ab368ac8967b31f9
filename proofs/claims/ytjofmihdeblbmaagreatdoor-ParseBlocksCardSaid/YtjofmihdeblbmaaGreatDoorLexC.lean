/- lex.name: what it tells. -/
import Derived.Test.YtjofmihdeblbmaaGreatDoorLexB
import Derived.Test.YtjofmihdeblbmaaGreatDoorShelf
namespace Go.Proofs.YtjofmihdeblbmaaGreatDoor
open Go.RowKit
theorem results_ct {P : Program} {fn : Func} {p u : Tmp} {ty : TypeId} (h : fn.results = #[.cell p ty, .tmp u]) (tmps : Array Value) (w : World) (g : Nat) (t : TypeId) (cs : Array Value) (fr : Nat × Nat) (d : TypeDesc)
    (hp : tmps.getD p undef = .pointer (some ⟨g, 0, none⟩)) (hg : w.heap[g]? = some (.cells cs t fr))
    (hu : P.underlying ty = some d) (hd : (match d with | .struct _ | .array _ _ => true | _ => false) = true) (hi : (P.info? ty).map (·.size) = some cs.size) :
    (results fn tmps).run P w = .ok (.tuple #[.agg cs, tmps.getD u undef]) w := by
  have hp' : tmps[p]?.getD undef = .pointer (some ⟨g, 0, none⟩) := by simpa using hp
  simp [results, h, hp', asAddr, run_loadVar_row w g t ty cs fr d hg hu hd hi]
theorem heap_two (w : World) (o1 o2 : Obj) : ((w.alloc o1).alloc o2).heap[w.heap.size]? = some o1 := by
  rw [heap_alloc_old _ _ (by simp), heap_alloc_new]
def lexWords : List UInt8 := [32, 102, 110, 32, 108, 101, 116, 32, 105, 102, 32, 101, 108, 115, 101, 32, 119, 104, 105, 108, 101, 32, 98, 114, 101, 97, 107, 32, 99, 111, 110, 116, 105, 110, 117, 101, 32, 114, 101, 116, 117, 114, 110, 32, 112, 114, 105, 110, 116, 32, 110, 105, 108, 32]
def isWd (t : List UInt8) : Bool := Lib.contains lexWords (32 :: t ++ [32])
theorem span_nam' (s : ByteArray) (w : World) (hs : s.size ≤ 9223372036854775807) :
    Calls Tryz.prog 167 #[.string s, .func (.func 202) #[] #[]] w fun e w' => ∃ k : Nat, e = .returned (.int .i64 k) ∧ Hid (spanI isNam s.data.toList = k) ∧ k ≤ s.size ∧ w' = w := by
  refine (span_nam isNam nam_walk s w hs).mono ?_
  rintro e w' ⟨rfl, rfl⟩
  exact ⟨_, rfl, ⟨rfl⟩, spanI_le isNam s.data.toList, rfl⟩
def lex_name.f (a0 : ByteArray) : Option (Int × ByteArray × Int × Int × Int) :=
  if a0.size ≤ 9223372036854775807 then
    if 16 < spanI isNam a0.data.toList then some (0, ⟨#[]⟩, 0, 0, 0)
    else some (if isWd (a0.extract 0 (spanI isNam a0.data.toList)).data.toList then 2 else 1, a0.extract 0 (spanI isNam a0.data.toList), 0, 0, (spanI isNam a0.data.toList : Nat))
  else none
set_option maxRecDepth 100000 in
theorem lex_name.calls0 (a0 : ByteArray) (r1 : Int) (r2 : ByteArray) (r3 r4 r5 : Int) (w : World) (h : lex_name.f a0 = some (r1, r2, r3, r4, r5)) (hm : ∃ m, w.cell? ⟨0, 0, none⟩ = some (.int .i64 m)) :
    Calls Tryz.prog 171 #[.string a0] w fun e w' => e = .returned (.tuple #[.agg #[.int .i64 r1, .string r2, .int .i64 r3, .int .i64 r4], .int .i64 r5]) ∧ Below w.heap.size w w' := by
  obtain ⟨m, hm⟩ := hm
  unfold lex_name.f at h
  split at h
  case isFalse => simp at h
  rename_i hs
  have h' := Hid.mk h
  clear h
  have hlt : 0 < w.heap.size := by
    rcases Nat.lt_or_ge 0 w.heap.size with g | g
    · exact g
    · exfalso; simp [World.cell?, Array.getElem?_eq_none g] at hm
  have hm' : ∀ o1 o2, ((w.alloc o1).alloc o2).cell? ⟨0, 0, none⟩ = some (.int .i64 m) := fun o1 o2 => by
    rw [Below.cell (B := w.heap.size) (w := w) (((Below.refl _ w).alloc (by simp) _).alloc (by simp) _) hlt]; exact hm
  go_enter Tryz.func171, Tryz.ntmps171
  go_wp2_with (first
    | (go_at_call 167; (with_reducible refine (span_nam' _ _ hs).mono ?_); rintro e w' ⟨k, rfl, hk1, hk2, rfl⟩)
    | (go_at_call 203; refine (Tryz.strings_Contains _ _ m _ (by decide) (hm' _ _)).mono ?_; rintro e w' ⟨rfl, rfl⟩))
  all_goals (have e1 := hk1.out; have hh := h'.out; rw [e1] at hh)
  · rw [if_pos (by omega)] at hh
    simp only [Option.some.injEq, Prod.mk.injEq] at hh
    obtain ⟨rfl, rfl, rfl, rfl, rfl⟩ := hh
    refine bodyPost_ret (results_ct rfl _ _ w.heap.size 138 #[.int .i64 0, .string ⟨#[]⟩, .int .i64 0, .int .i64 0] (0, 0) _ rfl (heap_alloc_new _ _) Tryz.underlying138 rfl (by kernel_rfl)) rfl ?_
    exact ⟨rfl, (Below.refl _ w).alloc (by simp) _⟩
  all_goals rw [if_neg (by omega)] at hh
  · have hw : isWd (a0.extract 0 k).data.toList = true := by rw [take_list]; assumption
    rw [if_pos hw] at hh
    simp only [Option.some.injEq, Prod.mk.injEq] at hh
    obtain ⟨rfl, rfl, rfl, rfl, rfl⟩ := hh
    refine bodyPost_ret (results_ct rfl _ _ w.heap.size 138 #[.int .i64 2, .string (a0.extract 0 k), .int .i64 0, .int .i64 0] (0, 0) _ rfl (heap_two _ _ _) Tryz.underlying138 rfl (by kernel_rfl)) rfl ?_
    exact ⟨rfl, ((Below.refl _ w).alloc (by simp) _).alloc (by simp) _⟩
  · have hw : isWd (a0.extract 0 k).data.toList = false := by rw [take_list]; assumption
    rw [if_neg (by rw [hw]; decide)] at hh
    simp only [Option.some.injEq, Prod.mk.injEq] at hh
    obtain ⟨rfl, rfl, rfl, rfl, rfl⟩ := hh
    refine bodyPost_ret (results_ct rfl _ _ w.heap.size 138 #[.int .i64 1, .string (a0.extract 0 k), .int .i64 0, .int .i64 0] (0, 0) _ rfl (heap_two _ _ _) Tryz.underlying138 rfl (by kernel_rfl)) rfl ?_
    exact ⟨rfl, ((Below.refl _ w).alloc (by simp) _).alloc (by simp) _⟩
end Go.Proofs.YtjofmihdeblbmaaGreatDoor

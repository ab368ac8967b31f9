/- XA, joined: XaI0. -/
import Derived.Test.YtjofmihdeblbmaaGreatDoorXaM09
import Derived.MapKept
/- XA, part I0: maps whose keys are whole numbers, strings or truth values: make, look up, set. -/
namespace Go.Proofs.YtjofmihdeblbmaaGreatDoor.Xa
open Go Go.RowKit
set_option linter.unusedVariables false
set_option linter.unusedSimpArgs false

def keyShape : TD → Value → Bool
  | .int _, .int _ _ => true
  | .str, .string _ => true
  | .bool, .bool _ => true
  | _, _ => false
def sameV : Value → Value → Option Bool
  | .int k a, .int k' b => if k = k' then some (a == b) else none
  | .string a, .string b => some (a == b)
  | .bool a, .bool b => some (a == b)
  | _, _ => none
def xfindK (k : Value) : List (Value × V) → Nat → Option (Option (Nat × V))
  | [], _ => some none
  | e :: es, i => match sameV k e.1 with
    | some true => some (some (i, e.2))
    | some false => xfindK k es (i + 1)
    | none => none
def xlookup (E : Env) (t : TypeId) (x i : V) (commaOk : Bool) (h : H) : Option V :=
  match E.T t, x, i with
  | some ty, .map id, .lit c => match ty.desc, h.obj id with
    | .map kt vt, some (.map _ _ kv) => match E.T kt, E.T vt with
      | some kty, some vty => if keyShape kty.desc c = true then match xfindK c kv 0 with
          | some (some (_, v)) => some (if commaOk then .tup [v, .lit (.bool true)] else v)
          | some none => (mk vty vty.zero).map fun z => if commaOk then .tup [z, .lit (.bool false)] else z
          | none => none
        else none
      | _, _ => none
    | _, _ => none
  | _, _, _ => none
def xmapUpdate (E : Env) (t : TypeId) (m k v : V) (h : H) : Option H :=
  match E.T t, m, k with
  | some ty, .map id, .lit c => match ty.desc, h.obj id with
    | .map kt vt, some (.map a b kv) => match E.T kt with
      | some kty => if keyShape kty.desc c = true then match xfindK c kv 0 with
          | some (some (i, _)) => some (h.put id (.map a b (kv.set i (c, v))))
          | some none => some (h.put id (.map a b (kv ++ [(c, v)])))
          | none => none
        else none
      | none => none
    | _, _ => none
  | _, _, _ => none

section
variable {E : Env} {κ : Kp} {h : H} {w : World}
theorem sameNow_of {T : TD} {d : TypeDesc} {k k' : Value} {b : Bool} (hf : TDFits T d) (hs : keyShape T k = true) (h : sameV k k' = some b) : Instr.sameNow d k k' = some b := by
  unfold keyShape at hs
  split at hs
  · obtain rfl : d = _ := hf
    cases k' <;> simp [sameV] at h
    obtain ⟨h1, h2⟩ := h
    simp [Instr.sameNow, h1, h2]
  · obtain rfl : d = _ := hf
    cases k' <;> simp [sameV] at h
    simp [Instr.sameNow, h]
  · obtain rfl : d = _ := hf
    cases k' <;> simp [sameV] at h
    simp [Instr.sameNow, h]
  · cases hs
theorem findNow_of {T : TD} {d : TypeDesc} {k : Value} (hf : TDFits T d) (hs : keyShape T k = true) : ∀ {kv : List (Value × V)} {es : List MapEntry} {i : Nat}, es.map (fun e => e.key) = kv.map (fun p => p.1) → VRels κ (kv.map fun p => p.2) (es.map fun e => e.val) →
    (xfindK k kv i = some none → Instr.findNow d k es i = some none) ∧ (∀ j v, xfindK k kv i = some (some (j, v)) → ∃ e, es[j - i]? = some e ∧ i ≤ j ∧ j - i < es.length ∧ sameV k e.key = some true ∧ VRel κ v e.val ∧ Instr.findNow d k es i = some (some (j, e.val)))
  | [], [], i, _, _ => ⟨fun _ => rfl, fun j v hx => by simp [xfindK] at hx⟩
  | [], e :: es, i, h1, _ => by simp at h1
  | p :: kv, [], i, h1, _ => by simp at h1
  | p :: kv, e :: es, i, h1, h2 => by
    simp only [List.map_cons, List.cons.injEq] at h1
    obtain ⟨hk, h1⟩ := h1
    cases h2 with
    | cons hv ht =>
      obtain ⟨g1, g2⟩ := findNow_of (i := i + 1) hf hs h1 ht
      unfold xfindK Instr.findNow
      cases hsv : sameV k p.1 with
      | none => exact ⟨fun h => (by cases h), fun j v h => (by cases h)⟩
      | some b =>
        have hsn := sameNow_of hf hs hsv
        rw [← hk] at hsn hsv
        rw [hsn]
        cases b
        · refine ⟨fun h => g1 h, fun j v h => ?_⟩
          obtain ⟨e', q1, q2, q3, q4, q5, q6⟩ := g2 j v h
          have e1 : j - i = (j - (i + 1)) + 1 := by omega
          exact ⟨e', by rw [e1]; simpa using q1, by omega, by rw [e1]; simpa using q3, q4, q5, q6⟩
        · refine ⟨fun h => (by cases h), fun j v h => ?_⟩
          simp only [Option.some.injEq, Prod.mk.injEq] at h
          obtain ⟨rfl, rfl⟩ := h
          exact ⟨e, by simp, Nat.le_refl _, by simp, hsv, hv, rfl⟩
theorem checkKey_of {T : TD} {d : TypeDesc} {kt : TypeId} {k : Value} {empty : Bool} (hd : E.P.underlying kt = some d) (hf : TDFits T d) (hs : keyShape T k = true) : (Instr.checkKey empty 10000 kt k).run E.P w = .ok () w := by
  have : ∀ n, (Instr.checkKey empty (n + 1) kt k).run E.P w = .ok () w := by
    intro n
    unfold keyShape at hs
    split at hs <;> first | (obtain rfl : d = _ := hf; simp [Instr.checkKey, run_underlying hd]; done) | cases hs
  exact this 9999
theorem aggV_cells {z : Value} (h : aggV z = false) : z.cells = #[z] := by cases z <;> first | rfl | cases h
theorem mk_zero {t : TypeId} {ty : Ty} {v : V} (hT : E.T t = some ty) (hm : mk ty ty.zero = some v) : ∃ c, (zeroValue t).run E.P w = .ok c w ∧ VRel κ v c := by
  obtain ⟨⟨i, z, hi, hs, hby, hz, hzc, hzs, hz1⟩, d, hd, hagg, hfit⟩ := E.ok t ty hT
  have hv := conc_rels (κ := κ) hzc
  have hsh := (E.okT t ty hT).shape i z hi hz
  refine ⟨z, by simp [zeroValue, typeInfo, hi, hz], ?_⟩
  unfold mk at hm
  by_cases ha : ty.agg = true
  · rw [if_pos ha] at hm
    obtain rfl := Option.some.inj hm
    rw [ha] at hsh
    cases z <;> first | (cases hsh; done) | exact .agg (by simpa [Value.cells] using hv) hz1
  · rw [if_neg ha] at hm
    rw [aggV_cells (by simpa [ha] using hsh)] at hv
    split at hm
    · obtain rfl := Option.some.inj hm
      rename_i hq
      rw [hq] at hv
      obtain ⟨c, ds, he, h1, h2⟩ := hv.inv_cons
      simp only [List.cons.injEq] at he
      rw [he.1]; exact h1
    · cases hm
theorem xmakeMap_ok (R : Rel E.P κ h w) (t kt vt : TypeId) : Gives E κ w (Instr.makeMap t none) (.map h.next) (h.new (.map kt vt [])) := by
  refine ⟨.map (some w.heap.size), w.alloc (.map #[] 0), κ.withObj w.heap.size, ?_, R.withObj_le _, .map (R.withObj_at _), R.newObj ⟨#[], 0, alloc_new w _, rfl, .nil, by simp⟩⟩
  simp [Instr.makeMap, newObj, Sem.run, World.alloc_eq]
theorem xlookup_ok (R : Rel E.P κ h w) {t : TypeId} {x i v : V} {commaOk : Bool} {cx ci : Value} (hx : VRel κ x cx) (hi : VRel κ i ci) (hf : xlookup E t x i commaOk h = some v) : ∃ c, (Instr.lookup t cx ci commaOk).run E.P w = .ok c w ∧ VRel κ v c := by
  unfold xlookup at hf
  split at hf
  case h_2 => cases hf
  rename_i ty id c hT
  split at hf
  case h_2 => cases hf
  rename_i kt vt a b kv hd ho
  split at hf
  case h_2 => cases hf
  rename_i kty vty hkt hvt
  split at hf
  case isFalse => cases hf
  rename_i hks
  obtain ⟨_, d, hu, _, hfit⟩ := E.ok t ty hT
  rw [hd] at hfit
  obtain rfl : d = .map kt vt := hfit
  obtain ⟨_, kd, hku, _, hkfit⟩ := E.ok kt kty hkt
  cases hi
  cases hx with
  | map hb =>
    rename_i bb
    obtain ⟨b', hb', es, clock, h1, h2, h3, h4⟩ := R.obj id _ ho
    rw [hb] at hb'
    obtain rfl := Option.some.inj hb'
    obtain ⟨g1, g2⟩ := findNow_of (i := 0) hkfit hks h2 h3
    have hck := checkKey_of (E := E) (w := w) (empty := es.isEmpty) hku hkfit hks
    have hgo : (getObj bb).run E.P w = .ok (.map es clock) w := by simp [getObj, Sem.run, h1]
    split at hf
    · rename_i j v' hfk
      obtain rfl := Option.some.inj hf
      obtain ⟨e, q1, q2, q3, q4, q5, q6⟩ := g2 j v' hfk
      have hfk' : (Instr.findKey kt ci es.toList).run E.P w = .ok (some (j, e.val)) w := by
        simp [Instr.findKey, run_underlying hku, q6]
      refine ⟨if commaOk then .tuple #[e.val, .bool true] else e.val, ?_, ?_⟩
      · simp [Instr.lookup, run_underlying hu, hgo, hck, hfk']
      · cases commaOk
        · exact q5
        · exact .tup (.cons q5 (.cons (.lit _) .nil))
    · rename_i hfk
      obtain ⟨z, hz, rfl⟩ := Option.map_eq_some_iff.1 hf
      have hfk' : (Instr.findKey kt ci es.toList).run E.P w = .ok none w := by
        simp [Instr.findKey, run_underlying hku, g1 hfk]
      obtain ⟨cz, hzr, hzv⟩ := mk_zero (κ := κ) (w := w) hvt hz
      refine ⟨if commaOk then .tuple #[cz, .bool false] else cz, ?_, ?_⟩
      · simp [Instr.lookup, run_underlying hu, hgo, hck, hfk', hzr]
      · cases commaOk
        · exact hzv
        · exact .tup (.cons hzv (.cons (.lit _) .nil))
    · cases hf
theorem sameBits_of {k k' : Value} (h : sameV k k' = some true) (n : Nat) : Instr.sameBits n k' k = true ∧ k' = k := by
  cases k <;> cases k' <;> simp [sameV] at h
  · simp [Instr.sameBits, h]
  · obtain ⟨h1, h2⟩ := h
    simp [Instr.sameBits, h1, h2]
  · have h := (MapKept.bytes_beq _ _).1 h
    subst h
    simp [Instr.sameBits, MapKept.bytes_beq]
theorem map_modify {β : Type} (es : Array MapEntry) (i : Nat) (e : MapEntry) (he : es.toList[i]? = some e) (f : MapEntry → MapEntry) (g : MapEntry → β) : (es.modify i f).toList.map g = (es.toList.map g).set i (g (f e)) := by
  rw [Array.toList_modify]
  refine List.ext_getElem? fun j => ?_
  rw [List.getElem?_map, List.getElem?_modify, List.getElem?_set, List.getElem?_map, List.length_map]
  have hi := (List.getElem?_eq_some_iff.1 he).1
  by_cases hj : i = j
  · subst hj
    simp [he]
    exact hi
  · simp [hj]
theorem xmapUpdate_ok (R : Rel E.P κ h w) {t : TypeId} {m k v : V} {cm ck cv : Value} {h' : H} (hm : VRel κ m cm) (hk : VRel κ k ck) (hv : VRel κ v cv) (hf : xmapUpdate E t m k v h = some h') : ∃ w', (Instr.mapUpdate t cm ck cv).run E.P w = .ok () w' ∧ Rel E.P κ h' w' := by
  unfold xmapUpdate at hf
  split at hf
  case h_2 => cases hf
  rename_i ty id c hT
  split at hf
  case h_2 => cases hf
  rename_i kt vt a b kv hd ho
  split at hf
  case h_2 => cases hf
  rename_i kty hkt
  split at hf
  case isFalse => cases hf
  rename_i hks
  obtain ⟨_, d, hu, _, hfit⟩ := E.ok t ty hT
  rw [hd] at hfit
  obtain rfl : d = .map kt vt := hfit
  obtain ⟨_, kd, hku, _, hkfit⟩ := E.ok kt kty hkt
  cases hk
  cases hm with
  | map hb =>
    rename_i bb
    obtain ⟨b', hb', es, clock, h1, h2, h3, h4⟩ := R.obj id _ ho
    rw [hb] at hb'
    obtain rfl := Option.some.inj hb'
    obtain ⟨g1, g2⟩ := findNow_of (i := 0) hkfit hks h2 h3
    have hck := checkKey_of (E := E) (w := w) (empty := false) hku hkfit hks
    have hgo : (getObj bb).run E.P w = .ok (.map es clock) w := by simp [getObj, Sem.run, h1]
    have hobjb := R.objb id bb hb
    have hlt : bb < w.heap.size := hobjb.2.1
    have put : ∀ (es' : Array MapEntry) (cl : Nat) (kv' : List (Value × V)), es'.toList.map (fun e => e.key) = kv'.map (fun p => p.1) → VRels κ (kv'.map fun p => p.2) (es'.toList.map fun e => e.val) → (∀ e ∈ es', e.born < cl) →
        ∃ w', (setObj bb (.map es' cl)).run E.P w = .ok () w' ∧ Rel E.P κ (h.put id (.map a b kv')) w' := fun es' cl kv' q1 q2 q3 => by
      refine ⟨_, MapKept.run_setObj_map _ h1, R.putObj ho hb ⟨es', cl, ?_, q1, q2, q3⟩ (fun j hj => ?_) (by simp) ⟨rfl, rfl, rfl, by simp, fun j hj => ?_⟩⟩
      · show (w.heap.setIfInBounds bb _)[bb]? = _
        rw [Array.getElem?_setIfInBounds]
        simp [hlt]
      · show (w.heap.setIfInBounds bb _)[j]? = _
        rw [Array.getElem?_setIfInBounds, if_neg (fun e => hj e.symm)]
      · show (w.heap.setIfInBounds bb _)[j]? = _
        rw [Array.getElem?_setIfInBounds, if_neg (by have := hobjb.1; omega)]
    split at hf
    · rename_i j v' hfk
      obtain rfl := Option.some.inj hf
      obtain ⟨e, q1, q2, q3, q4, q5, q6⟩ := g2 j v' hfk
      have hfk' : (Instr.findKey kt ck es.toList).run E.P w = .ok (some (j, e.val)) w := by
        simp [Instr.findKey, run_underlying hku, q6]
      obtain ⟨s1, s2⟩ := sameBits_of q4 10000
      rw [Nat.sub_zero] at q1
      have hes : es[j]? = some e := by rw [← Array.getElem?_toList]; exact q1
      have hstay : (Instr.keyThatStays e.key ck).run E.P w = .ok ck w := by
        unfold Instr.keyThatStays
        rw [if_pos s1]; rfl
      obtain ⟨w', p1, p2⟩ := put (es.modify j fun e => { e with key := ck, val := cv }) clock (kv.set j (ck, v)) (by
          rw [map_modify es j e q1, List.map_set, h2]) (by
          rw [map_modify es j e q1, List.map_set]
          exact h3.set hv j) (fun x hx => by
          obtain ⟨n, hn, hx⟩ := Array.mem_iff_getElem.1 hx
          rw [← hx, Array.getElem_modify]
          have hn' : n < es.size := by simpa using hn
          have := h4 es[n] (Array.getElem_mem hn')
          split
          · exact this
          · exact this)
      refine ⟨w', ?_, p2⟩
      simp [Instr.mapUpdate, run_underlying hu, hgo, hck, hfk', hes, hstay, p1]
    · rename_i hfk
      obtain rfl := Option.some.inj hf
      have hfk' : (Instr.findKey kt ck es.toList).run E.P w = .ok none w := by
        simp [Instr.findKey, run_underlying hku, g1 hfk]
      obtain ⟨w', p1, p2⟩ := put (es.push { key := ck, val := cv, born := clock }) (clock + 1) (kv ++ [(ck, v)]) (by simp [h2]) (by
          simp only [Array.toList_push, List.map_append, List.map_cons, List.map_nil]
          exact h3.append (.cons hv .nil)) (fun x hx => by
          rcases Array.mem_push.1 hx with hx | rfl
          · exact Nat.lt_succ_of_lt (h4 x hx)
          · exact Nat.lt_succ_self _)
      refine ⟨w', ?_, p2⟩
      simp [Instr.mapUpdate, run_underlying hu, hgo, hck, hfk', p1]
    · cases hf
end
end Go.Proofs.YtjofmihdeblbmaaGreatDoor.Xa

/- XA: a scope with one label, to which the run jumps from its end. | XA: stack: heights. -/
import Derived.ScopeJumps
import Derived.Test.YtjofmihdeblbmaaGreatDoorXaM18
import Derived.Test.YtjofmihdeblbmaaGreatDoorXaM65
namespace Go.Proofs.YtjofmihdeblbmaaGreatDoor.Xa
open Go Go.RowKit
set_option linter.unusedVariables false
set_option linter.unusedSimpArgs false
set_option maxRecDepth 100000
/-- what stands ahead of the label; what stands behind it; and this without its jump -/
def headL (l : Nat) : Code → Code
  | .seq (.label l') b => if l' == l then .skip else .seq (.label l') (headL l b)
  | .seq a b => .seq a (headL l b)
  | c => c
def tailL (l : Nat) : Code → Option Code
  | .seq (.label l') b => if l' == l then some b else tailL l b
  | .seq a b => tailL l b
  | _ => none
def cutG (l : Nat) : Code → Code
  | .seq a b => .seq a (cutG l b)
  | .goto l' => if l' == l then .skip else .goto l'
  | c => c
def endsG (l : Nat) : Code → Bool
  | .seq a b => endsG l b
  | .goto l' => l' == l
  | _ => false
section
variable {E : Env} {κ : Kp}
def Jl (E : Env) (κ : Kp) (K : List V → H → Prop) : Act → World → Prop := fun a w => ∃ κ' fr h, κ.le κ' ∧ FR κ' fr a ∧ Rel E.P κ' h w ∧ K fr h
theorem Jl.mono {κ κ' : Kp} {K : List V → H → Prop} {a : Act} {w : World} (hk : κ.le κ') (hj : Jl E κ' K a w) : Jl E κ K a w := by
  obtain ⟨κ'', fr, h, h1, h2⟩ := hj
  exact ⟨κ'', fr, h, hk.trans h1, h2⟩
theorem jump_mono {l : Nat} {κ κ' : Kp} {K : List V → H → Prop} {Q : XE → List V → H → Prop} (hk : κ.le κ') : ∀ e a w, Exit.jump l (Jl E κ' K) (lift E κ' Q) e a w → Exit.jump l (Jl E κ K) (lift E κ Q) e a w := by
  intro e a w hj
  cases e with
  | goto l' => exact ⟨hj.1, hj.2.mono hk⟩
  | normal => exact (show lift E κ Q .normal a w from lift_mono hk (show lift E κ' Q .normal a w from hj))
  | exit id => exact (show lift E κ Q (.exit id) a w from lift_mono hk (show lift E κ' Q (.exit id) a w from hj))
  | ret => exact (show lift E κ Q .ret a w from lift_mono hk (show lift E κ' Q .ret a w from hj))
  | panic c => exact (show lift E κ Q (.panic c) a w from lift_mono hk (show lift E κ' Q (.panic c) a w from hj))
  | outgrown => exact (show lift E κ Q .outgrown a w from lift_mono hk (show lift E κ' Q .outgrown a w from hj))
theorem cut_ok (l : Nat) (K : List V → H → Prop) (Q : XE → List V → H → Prop) : ∀ (c : Code), endsG l c = true → ∀ (κ : Kp) (fr : List V) (h : H), xcode E (cutG l c) (seqQ K Q) fr h → ∀ (w : World) (a : Act), E.I κ.w0 → Rel E.P κ h w → FR κ fr a → c.wp E.P (Exit.jump l (Jl E κ K) (lift E κ Q)) a w
  | .seq x y, he, κ, fr, h, hx, w, a, hI, R, F => by
    have he' : endsG l y = true := he
    have hx' : xcode E x (seqQ (xcode E (cutG l y) (seqQ K Q)) (seqQ K Q)) fr h := hx
    refine wp_seq (wp_mono (xcode_ok x hx' κ w a hI R F) ?_)
    rintro e a' w' ⟨κ', fr', h', h1, h2, h3, h4⟩
    cases e with
    | normal => exact wp_mono (cut_ok l K Q y he' κ' fr' h' h4 w' a' (by rw [h1.w0]; exact hI) h3 h2) (jump_mono h1)
    | exit id => exact ⟨κ', fr', h', h1, h2, h3, h4⟩
    | ret => exact ⟨κ', fr', h', h1, h2, h3, h4⟩
    | goto l => exact h4.elim
    | panic c => exact h4.elim
    | outgrown => exact h4.elim
  | .goto l', he, κ, fr, h, hx, w, a, hI, R, F => by
    have hl : (l' == l) = true := he
    unfold cutG at hx
    rw [if_pos hl] at hx
    exact wp_goto ⟨by simpa using hl, κ, fr, h, .refl κ, F, R, hx⟩
  | .skip, he, _, _, _, _, _, _, _, _, _ => by simp [endsG] at he
  | .region _ _ _, he, _, _, _, _, _, _, _, _, _ => by simp [endsG] at he
  | .cond _ _ _, he, _, _, _, _, _, _, _, _, _ => by simp [endsG] at he
  | .block _ _, he, _, _, _, _, _, _, _, _, _ => by simp [endsG] at he
  | .loop _, he, _, _, _, _, _, _, _, _, _ => by simp [endsG] at he
  | .rangeFunc _ _ _ _, he, _, _, _, _, _, _, _, _, _ => by simp [endsG] at he
  | .exit _, he, _, _, _, _, _, _, _, _, _ => by simp [endsG] at he
  | .scope _, he, _, _, _, _, _, _, _, _, _ => by simp [endsG] at he
  | .label _, he, _, _, _, _, _, _, _, _, _ => by simp [endsG] at he
  | .ret, he, _, _, _, _, _, _, _, _, _ => by simp [endsG] at he
  | .refuse _, he, _, _, _, _, _, _, _, _, _ => by simp [endsG] at he
theorem head_ok (l : Nat) (X : Code) (K K' : List V → H → Prop) (Q : XE → List V → H → Prop) (hX : ∀ (κ : Kp) (fr : List V) (h : H) (w : World) (a : Act), E.I κ.w0 → Rel E.P κ h w → FR κ fr a → K fr h → X.wp E.P (Exit.jump l (Jl E κ K') (lift E κ Q)) a w) :
    ∀ (c : Code), tailL l c = some X → ∀ (κ : Kp) (fr : List V) (h : H), xcode E (headL l c) (seqQ K Q) fr h → ∀ (w : World) (a : Act), E.I κ.w0 → Rel E.P κ h w → FR κ fr a → c.wp E.P (Exit.jump l (Jl E κ K') (lift E κ Q)) a w := by
  intro c
  fun_induction tailL l c with
  | case1 l' b hl =>
    intro ht κ fr h hx w a hI R F
    obtain rfl := Option.some.inj ht
    unfold headL at hx
    rw [if_pos hl] at hx
    exact wp_seq (wp_label (hX κ fr h w a hI R F hx))
  | case2 l' b hl ih =>
    intro ht κ fr h hx w a hI R F
    unfold headL at hx
    rw [if_neg hl] at hx
    have hx' : xcode E (.label l') (seqQ (xcode E (headL l b) (seqQ K Q)) (seqQ K Q)) fr h := hx
    refine wp_seq (wp_mono (xcode_ok _ hx' κ w a hI R F) ?_)
    rintro e a' w' ⟨κ', fr', h', h1, h2, h3, h4⟩
    cases e with
    | normal => exact wp_mono (ih ht κ' fr' h' h4 w' a' (by rw [h1.w0]; exact hI) h3 h2) (jump_mono h1)
    | exit id => exact ⟨κ', fr', h', h1, h2, h3, h4⟩
    | ret => exact ⟨κ', fr', h', h1, h2, h3, h4⟩
    | goto l => exact h4.elim
    | panic c => exact h4.elim
    | outgrown => exact h4.elim
  | case3 x b hn ih =>
    intro ht κ fr h hx w a hI R F
    have hh : headL l (.seq x b) = .seq x (headL l b) := by
      cases x <;> first | rfl | exact (hn _ rfl).elim
    rw [hh] at hx
    have hx' : xcode E x (seqQ (xcode E (headL l b) (seqQ K Q)) (seqQ K Q)) fr h := hx
    refine wp_seq (wp_mono (xcode_ok _ hx' κ w a hI R F) ?_)
    rintro e a' w' ⟨κ', fr', h', h1, h2, h3, h4⟩
    cases e with
    | normal => exact wp_mono (ih ht κ' fr' h' h4 w' a' (by rw [h1.w0]; exact hI) h3 h2) (jump_mono h1)
    | exit id => exact ⟨κ', fr', h', h1, h2, h3, h4⟩
    | ret => exact ⟨κ', fr', h', h1, h2, h3, h4⟩
    | goto l => exact h4.elim
    | panic c => exact h4.elim
    | outgrown => exact h4.elim
  | case4 c h1 h2 => intro ht; cases ht
theorem least (p : Nat → Prop) : ∀ n, p n → ∃ m, p m ∧ m ≤ n ∧ ∀ k, p k → m ≤ k := by
  intro n
  induction n using Nat.strongRecOn with
  | _ n ih =>
    intro hn
    by_cases hx : ∃ k, k < n ∧ p k
    · obtain ⟨k, hk, hp⟩ := hx
      obtain ⟨m, h1, h2, h3⟩ := ih k hk hp
      exact ⟨m, h1, by omega, h3⟩
    · exact ⟨n, hn, Nat.le_refl _, fun k hk => Nat.le_of_not_lt fun hlt => hx ⟨k, hlt, hk⟩⟩
/-- A scope whose run jumps from its end to its one label: J n holds at each pass of the label, n sinks. -/
theorem XW.scopeG {c X : Code} {Q : XE → List V → H → Prop} {fr : List V} {h : H} (l : Nat) (J : Nat → List V → H → Prop) (n : Nat) (hf : findLabel c l = some (Code.skip.seq X)) (ht : tailL l c = some X) (he : endsG l X = true)
    (first : xcode E (headL l c) (seqQ (fun fr' h' => J n fr' h') Q) fr h)
    (round : ∀ n fr h, J n fr h → xcode E (cutG l X) (seqQ (fun fr' h' => ∃ m, m < n ∧ J m fr' h') Q) fr h) : XW E (.scope c) Q fr h := by
  intro κ w a hI R F
  let p : Act → World → Nat → Prop := fun a w m => Jl E κ (J m) a w
  have hmu : ∃ μ : Act → World → Nat, ∀ a w m, p a w m → p a w (μ a w) ∧ μ a w ≤ m := by
    classical
    refine ⟨fun a w => if hx : ∃ m, p a w m then Classical.choose (least (p a w) (Classical.choose hx) (Classical.choose_spec hx)) else 0, fun a w m hm => ?_⟩
    have hx : ∃ m, p a w m := ⟨m, hm⟩
    dsimp only
    rw [dif_pos hx]
    have := Classical.choose_spec (least (p a w) (Classical.choose hx) (Classical.choose_spec hx))
    exact ⟨this.1, this.2.2 m hm⟩
  obtain ⟨μ, hμ⟩ := hmu
  have pass : ∀ m a w, p a w m → X.wp E.P (Exit.jump l (Jl E κ (fun fr' h' => ∃ k, k < m ∧ J k fr' h')) (lift E κ Q)) a w := by
    rintro m a w ⟨κ', fr', h', h1, h2, h3, h4⟩
    exact wp_mono (cut_ok l _ Q X he κ' fr' h' (round m fr' h' h4) w a (by rw [h1.w0]; exact hI) h3 h2) (jump_mono h1)
  have weak : ∀ m a w, Jl E κ (fun fr' h' => ∃ k, k < m ∧ J k fr' h') a w → ∃ k, k < m ∧ p a w k := by
    rintro m a w ⟨κ', fr', h', h1, h2, h3, k, hk, h4⟩
    exact ⟨k, hk, κ', fr', h', h1, h2, h3, h4⟩
  refine wp_scope_jumps l (fun a w => ∃ m, p a w m) μ hf ?_ ?_
  · refine wp_mono (head_ok l X (J n) (fun fr' h' => ∃ k, k < n ∧ J k fr' h') Q ?_ c ht κ fr h first w a hI R F) ?_
    · intro κ' fr' h' w' a' hI' R' F' hJ
      exact cut_ok l _ Q X he κ' fr' h' (round n fr' h' hJ) w' a' hI' R' F'
    · intro e a' w' hj
      cases e with
      | goto l' =>
        obtain ⟨k, hk, hp⟩ := weak n a' w' hj.2
        exact ⟨hj.1, k, hp⟩
      | normal => exact hj
      | exit id => exact hj
      | ret => exact hj
      | panic c => exact hj
      | outgrown => exact hj
  · rintro a w ⟨m, hm⟩
    obtain ⟨g1, g2⟩ := hμ a w m hm
    refine wp_mono (wp_seq (wp_skip (pass _ a w g1))) ?_
    intro e a' w' hj
    cases e with
    | goto l' =>
      obtain ⟨k, hk, hp⟩ := weak _ a' w' hj.2
      obtain ⟨g3, g4⟩ := hμ a' w' k hp
      exact ⟨hj.1, ⟨k, hp⟩, by omega⟩
    | normal => exact hj
    | exit id => exact hj
    | ret => exact hj
    | panic c => exact hj
    | outgrown => exact hj
end
end Go.Proofs.YtjofmihdeblbmaaGreatDoor.Xa
namespace Go.Proofs.YtjofmihdeblbmaaGreatDoor.Xa
open Go Go.RowKit
set_option linter.unusedVariables false
set_option linter.unusedSimpArgs false
set_option maxRecDepth 100000
set_option maxHeartbeats 1000000
/-- an array of ints that is written in place; behind what is in it there may be more -/
def IntA (h : H) (id : Nat) (l : List Int) : Prop := id < h.next ∧ ∃ r, h.arr id = some ⟨l.map intV ++ r, 1, 3⟩
attribute [local simp] hid2 hid3 hid4 xcode_skip xcode_region xcode_draw xcode_loop xcode_seq xcode_cond xcode_block xcode_scope xcode_exit xcode_ret xops_nil xops_cons xd_nil xd_cons xstep_eq annot fillOf findFill findStore srcOf kcls cls qval qvalN xwant dstAt want1 xdo xop ev_const ev_global ev_func ev_zero ev_succ ev_undefs ev_hit ev_miss put_none put_len undefs_len xnil xfieldAddr fieldOf eT emtb seqQ blockQ xload xstore splice V.storable V.one V.cells mk xbinop xbin xun xbuiltin xindexAddr nilOr xindex xint cv cv1 retQ xres_tmp xres_cell xres_nil xresult xbuild xfill xbuildSlice xrows Nat.testBit places xfield item sideOk pendOk pendOf tyT1 tyT2 tyT3 tyT4 tyT5 tyT9 tyT22 tyT23 tyT24 tyT25 tyT26 tyT30 tyT34 tyT39 tyT41 tyT47 tyT48 tyT50 tyT53 tyT54 tyT56 tyT58 tyT63 tyT70 tyT76 tyT78 tyT80 tyT84 tyT87 tyT89 tyT96 tyT98 tyT100 tyT102 tyT108 tyT110 tyT112 tyT113 tyT115 tyT119 tyT121 tyT124 tyT138 tyT139 tyT141 tyT142 tyT143 tyT145 tyT147 tyT149 tyT155 tyT158 tyT164 tyT179 tyT186 tyT188 tyT189 tyT194 tyT197 tyT200 tyT216 tyT242 tyT245 H.put_get H.new_get H.row_obj H.grow_obj H.bump_obj H.newArr_obj H.putArr_obj H.moveArr_obj H.put_arr H.new_arr H.row_arr H.grow_arr H.bump_arr H.newArr_get H.putArr_get H.moveArr_get H.put_ext H.new_ext H.newArr_ext H.putArr_ext H.moveArr_ext H.bump_ext H.row_get H.grow_get H.new_next H.row_next H.bump_next H.put_next H.grow_next H.newArr_next H.putArr_next H.moveArr_next H.app_next H.app_obj H.app_arr H.app_get bne emT emM xapp_em xmakeSlice xslice xlookup xmapUpdate keyShape
theorem ints_app {h : H} {id : Nat} {l : List Int} {r : List (List V)} (hr : h.arr id = some ⟨l.map intV ++ r, 1, 3⟩) (hid : id < h.next) (hl : l.length ≤ 100000) (k : Int) :
    xappendM (em [23]) 23 (.msl id 0 l.length 1) (.msl h.next 0 1 1) (h.newArr ⟨[[.lit (.int .i64 k)]], 1, 3⟩) = some (.msl (h.next + 1) 0 (l.length + 1) 1, (h.newArr ⟨[[.lit (.int .i64 k)]], 1, 3⟩).moveArr id ⟨(l ++ [k]).map intV, 1, 3⟩) := by
  have hT : tyT 23 = some ty23 := rfl
  have hE : tyT 3 = some ty3 := rfl
  have n1 : id ≠ h.next := by omega
  simp [-Int.natCast_add, isM, xappendM, rowsIn, hT, hE, intV, maxLen, n1, hr]
  omega
/-- the targets of the instruction at a place -/
def hStep (code : List Ins) (k : Nat) (i : Ins) : List Int → List Nat → List Int → Option (List Int × List Nat)
  | h, todo, [] => some (h, todo)
  | h, todo, t :: ts => match h[k]?, h[t.toNat]? with
    | some x, some y =>
      if leB (code.length : Nat) t || ltB t 0 || ltB 64 (IntKind.i64.wrap (IntKind.i64.wrap (x - popsP i) + pushesP i)) || (leB 0 y && !(y == IntKind.i64.wrap (IntKind.i64.wrap (x - popsP i) + pushesP i))) then none
      else if ltB y 0 then hStep code k i (h.set t.toNat (IntKind.i64.wrap (IntKind.i64.wrap (x - popsP i) + pushesP i))) (todo ++ [t.toNat]) ts
      else hStep code k i h todo ts
    | _, _ => none
def hLoop (code : List Ins) : Nat → List Int → List Nat → Option (List Int)
  | 0, _, _ => none
  | f + 1, h, todo => match todo.getLast? with
    | none => some h
    | some k => match code[k]?, h[k]? with
      | some i, some x => if ltB x (popsP i) then none else match hStep code k i h todo.dropLast (nextP code k) with
        | some (h', todo') => if todo'.length ≤ 99000 then hLoop code f h' todo' else none
        | none => none
      | _, _ => none
theorem hStep_len (code : List Ins) (k : Nat) (i : Ins) : ∀ (ts : List Int) (h : List Int) (td : List Nat) (h' : List Int) (td' : List Nat), hStep code k i h td ts = some (h', td') → td.length ≤ td'.length ∧ h'.length = h.length
  | [], h, td, h', td', hx => by
    unfold hStep at hx
    obtain ⟨rfl, rfl⟩ := Prod.mk.inj (Option.some.inj hx)
    exact ⟨Nat.le_refl _, rfl⟩
  | t :: ts, h, td, h', td', hx => by
    unfold hStep at hx
    split at hx
    case h_2 => cases hx
    split at hx
    · cases hx
    split at hx
    · have := hStep_len code k i ts _ _ _ _ hx
      simp at this
      exact ⟨by omega, this.2⟩
    · exact hStep_len code k i ts _ _ _ _ hx
def heightsP (f : Nat) (code : List Ins) : Option (List Int) :=
  if code.length = 0 then none else hLoop code f ((List.replicate code.length (-1)).set 0 0) [0]
theorem rep_set {α : Type} (a b : α) : ∀ (k n : Nat), k < n → (List.replicate k a ++ List.replicate (n - k) b).set k a = List.replicate (k + 1) a ++ List.replicate (n - (k + 1)) b := by
  intro k
  induction k with
  | zero =>
    intro n hk
    have : n - 0 = (n - (0 + 1)) + 1 := by omega
    rw [this, List.replicate_succ]
    rfl
  | succ k ih =>
    intro n hk
    have := ih (n - 1) (by omega)
    rw [show n - (k + 1) = n - 1 - k by omega, show n - (k + 1 + 1) = n - 1 - (k + 1) by omega]
    rw [List.replicate_succ, List.replicate_succ (n := k + 1), List.cons_append, List.cons_append, List.set_cons_succ, this]
def natI (l : List Nat) : List Int := l.map fun n => ((n : Nat) : Int)
structure HtI (h0 : H) (cv : V) (code : List Ins) (hl : List Int) (todo : List Nat) (idh idt : Nat) (h' : H) : Prop where
  fr : Fr h0 h'
  codeR : CodeR h' cv code
  arrh : h'.arr idh = some ⟨hl.map intV, 1, 3⟩
  arrt : ∃ r, h'.arr idt = some ⟨(natI todo).map intV ++ r, 1, 3⟩
  lth : h0.next ≤ idh ∧ idh < h'.next
  ltt : h0.next ≤ idt ∧ idt < h'.next
  ne : idh ≠ idt
  len : hl.length = code.length
def HtJ1 (h0 : H) (cv : V) (n : Nat) : Nat → List V → H → Prop := fun m fr' h' => ∃ k : Nat, m + k = n + 1 ∧ k ≤ n ∧ Fr h0 h' ∧ h'.arr h0.next = some ⟨(List.replicate k (-1 : Int) ++ List.replicate (n - k) 0).map intV, 1, 3⟩ ∧ h0.next < h'.next ∧
  fr'.length = 112 ∧ ev fr' (.tmp 0) = cv ∧ ev fr' (.tmp 4) = .msl h0.next 0 n 1 ∧ ev fr' (.tmp 15) = .lit (.int .i64 (n : Nat)) ∧ ev fr' (.tmp 16) = .lit (.int .i64 (k : Nat))
def HtJ (h0 : H) (cv : V) (code : List Ins) (res : List Int) : Nat → List V → H → Prop := fun m fr' h' => ∃ (hl : List Int) (todo : List Nat) (idh idt : Nat), hLoop code m hl todo = some res ∧ todo.length ≤ 99000 ∧ HtI h0 cv code hl todo idh idt h' ∧
  fr'.length = 112 ∧ ev fr' (.tmp 0) = cv ∧ ev fr' (.tmp 4) = .msl idh 0 code.length 1 ∧ ev fr' (.tmp 6) = .msl idt 0 todo.length 1
def HtK (h0 : H) (cv : V) (code : List Ins) (k : Nat) (i : Ins) (ks : List Int) (rv : V) (hl2 : List Int) (todo2 : List Nat) : Nat → List V → H → Prop := fun m fr' h' => ∃ (j : Nat) (hl : List Int) (td : List Nat) (idh idt : Nat), m + j = ks.length + 1 ∧ j ≤ ks.length ∧ hStep code k i hl td (ks.drop j) = some (hl2, todo2) ∧ HtI h0 cv code hl td idh idt h' ∧
  fr'.length = 112 ∧ ev fr' (.tmp 0) = cv ∧ ev fr' (.tmp 4) = .msl idh 0 code.length 1 ∧ ev fr' (.tmp 6) = .msl idt 0 td.length 1 ∧ ev fr' (.tmp 7) = .lit (.int .i64 (k : Nat)) ∧ ev fr' (.tmp 53) = rv ∧ ev fr' (.tmp 54) = .lit (.int .i64 (ks.length : Nat)) ∧ ev fr' (.tmp 55) = .lit (.int .i64 (j : Nat))
def HtQ (h0 : H) (res : List Int) : V → H → Prop := fun v h' => ∃ idh, v = .tup [.msl idh 0 res.length 1, .lit (.int .i64 0)] ∧ Fr h0 h' ∧ h0.next ≤ idh ∧ idh < h'.next ∧ h'.arr idh = some ⟨res.map intV, 1, 3⟩
theorem heights_calls (h : H) (cv : V) (code : List Ins) (hl : code.length ≤ 90000) (hR : CodeR h cv code) (f : Nat) (res : List Int) (hp : heightsP f code = some res) :
    XCalls e 83 [cv] h (HtQ h res) := by
  refine XCalls.ofM [23] ?_
  refine XCalls.of Tryz.func83 rfl (by kernel_rfl) ?_
  rw [Tryz.ntmps83]
  unfold heightsP at hp
  split at hp
  case isTrue => cases hp
  rename_i hne
  obtain ⟨cid, cr, rfl, hcid, hcr⟩ := hR
  simp [-Int.natCast_add, isM, xappendM, rowsIn]
  refine XW.scopeG 0 (HtJ h (.msl cid 0 code.length 3) code res) f rfl rfl rfl ?_ ?_
  · simp only [headL]
    have hb : (8 : Int) * (code.length : Nat) ≤ 281474976710656 := by omega
    have hm : code.length ≤ maxLen := by unfold maxLen; omega
    have hpos : 0 < code.length := by omega
    simp [-Int.natCast_add, isM, xappendM, rowsIn, hb, hm]
    refine XW.loopH (HtJ1 h (.msl cid 0 code.length 3) code.length) (code.length + 1) ?_ ?_
    · refine ⟨0, by omega, by omega, Fr.newArr _ _, ?_, by rw [H.newArr_next]; omega, ?_⟩
      · simp [H.newArr_get, intV]
      · simp [-Int.natCast_add, isM, xappendM, rowsIn]
    · rintro m fr' h' ⟨k, hmk, hk, hF, ha, hnx, e0, e1, e2, e3, e4⟩
      rcases Nat.lt_or_ge k code.length with hi | hi
      · have hi' : (k : Int) < (code.length : Int) := by omega
        have hw : IntKind.i64.wrap ((k : Int) + 1) = ((k + 1 : Nat) : Int) := wrapS (a := k) (b := 1) (by omega)
        have hrow : ((List.replicate k (-1 : Int) ++ List.replicate (code.length - k) 0).map intV)[k]? = some [.lit (.int .i64 0)] := by
          rw [List.getElem?_map, List.getElem?_append_right (by simp), List.getElem?_replicate]
          simp [intV]
          omega
        simp [-Int.natCast_add, isM, xappendM, rowsIn, -List.map_append, -List.map_replicate, e0, e1, e2, e3, e4, hi, hi', ltB_t, ha, hrow]
        refine ⟨m - 1, by omega, k + 1, by omega, by omega, hF.putArr (Nat.le_refl _) _, ?_, by rw [H.putArr_next]; exact hnx, ?_⟩
        · rw [H.putArr_get, if_pos rfl, ← rep_set _ _ _ _ hi, List.map_set]
          rfl
        · simp [-Int.natCast_add, isM, xappendM, rowsIn, e0, e1, e2, e3, e4, hw]
      · have hke : k = code.length := by omega
        subst hke
        have hlf : ltB ((code.length : Nat) : Int) (code.length : Int) = false := ltB_f (by omega)
        have hrow0 : ((List.replicate code.length (-1 : Int)).map intV)[0]? = some [.lit (.int .i64 (-1))] := by
          rw [List.getElem?_map, List.getElem?_replicate, if_pos (by omega)]
          rfl
        rw [Nat.sub_self, List.replicate_zero, List.append_nil] at ha
        simp [-Int.natCast_add, isM, xappendM, rowsIn, -List.map_replicate, e0, e1, e2, e3, e4, hlf, ha, hpos, hrow0, intV]
        refine ⟨(List.replicate code.length (-1)).set 0 0, [0], h.next, h'.next, hp, by simp, ⟨(hF.putArr (Nat.le_refl _) _).newArr1 _, ?_, ?_, ⟨[], ?_⟩, ⟨Nat.le_refl _, ?_⟩, ⟨?_, ?_⟩, by omega, by simp⟩, ?_⟩
        · exact ⟨cid, cr, rfl, by simp only [H.newArr_next, H.putArr_next]; have := hF.next; omega, by simp only [H.newArr_get, H.putArr_get, H.putArr_next]; rw [if_neg (by have := hF.next; omega), if_neg (by omega)]; exact (hF.arr cid hcid).trans hcr⟩
        · simp only [H.newArr_get, H.putArr_get, H.putArr_next]
          rw [if_neg (by omega), List.map_set]
          simp [intV]
        · simp [H.newArr_get, H.putArr_next, natI, intV]
        · simp only [H.newArr_next, H.putArr_next]; omega
        · have := hF.next; omega
        · simp only [H.newArr_next, H.putArr_next]; omega
        · simp [-Int.natCast_add, isM, xappendM, rowsIn, e0, e1, e2, e3, e4]
  · rintro n fr' h' ⟨hl', todo, idh, idt, hL, htl, ⟨iF, iC, iA, ⟨r, iT⟩, ih, it, ine, ilen⟩, e0, e1, e2, e3⟩
    simp only [cutG]
    cases n with
    | zero => simp [hLoop] at hL
    | succ n =>
    simp only [hLoop] at hL
    rcases List.eq_nil_or_concat todo with rfl | ⟨L, k, rfl⟩
    · simp only [List.getLast?_nil] at hL
      obtain rfl := Option.some.inj hL
      simp [-Int.natCast_add, isM, xappendM, rowsIn, e0, e1, e2, e3]
      exact ⟨idh, by rw [ilen], iF, ih.1, ih.2, iA⟩
    · simp only [List.concat_eq_append, List.getLast?_append, List.getLast?_singleton, Option.some_or, List.dropLast_concat] at hL
      rw [List.concat_eq_append] at e3 iT htl
      simp only [List.length_append, List.length_singleton] at htl
      split at hL
      case h_2 => cases hL
      rename_i i x hi hx
      split at hL
      case isTrue => cases hL
      rename_i hpop
      have hpop' : ltB x (popsP i) = false := by simpa using hpop
      split at hL
      case h_2 => cases hL
      rename_i hl2 todo2 hst
      split at hL
      case isFalse => cases hL
      rename_i ht2
      have hcap : L.length + 1 ≤ (natI (L ++ [k])).length + r.length := by simp [natI]
      have hne0 : (((L.length + 1 : Nat) : Int) == 0) = false := by simp; omega
      have hw : IntKind.i64.wrap (((L.length + 1 : Nat) : Int) - 1) = (L.length : Int) := by rw [wrapD (by omega)]; omega
      have hlt : (L.length : Int) < ((L.length + 1 : Nat) : Int) := by omega
      have hle : (L.length : Int) ≤ ((L.length + 1 : Nat) : Int) := by omega
      have hrowt : ((natI (L ++ [k])).map intV ++ r)[L.length]? = some [.lit (.int .i64 ((k : Nat) : Int))] := by
        rw [List.getElem?_append_left (by simp [natI]), List.getElem?_map]
        unfold natI
        rw [List.getElem?_map]
        simp [intV]
      obtain ⟨hkl, hie⟩ := List.getElem?_eq_some_iff.1 hi
      have hkl' : (k : Int) < (code.length : Int) := by omega
      have hrowh : (hl'.map intV)[k]? = some [.lit (.int .i64 x)] := by rw [List.getElem?_map, hx]; rfl
      have hcr' := (iF.arr cid hcid).trans hcr
      have hrowc : (code.map insV ++ cr)[k]? = some [.lit (.int .i64 i.1), .lit (.int .i64 i.2.1), .lit (.int .i64 i.2.2)] := by
        rw [List.getElem?_append_left (by simpa using hkl), List.getElem?_map, hi]
        rfl
      simp [-Int.natCast_add, isM, xappendM, rowsIn, -List.map_append, e0, e1, e2, e3, hne0, hw, hlt, hle, iT, hrowt, hcap]
      refine XW.drawB mixed (L := List.range 10) (B := [0, 0, 3, 7, 0, 0, 48, 112, 240, 511]) (by kernel_rfl) (by kernel_rfl) ?_
      simp only [List.range, List.range.loop, List.map_cons, List.map_nil, item]
      simp only [annot, fillOf, findFill, findStore, srcOf, List.getD_cons_succ, List.getD_cons_zero]
      simp [-Int.natCast_add, isM, xappendM, rowsIn, e0, e1, e2, e3, iA, hrowh, hkl, hkl', hcr', hrowc]
      refine (pops_calls h' i).mono ?_
      rintro _ h1 ⟨rfl, hF1⟩
      have iA1 := (hF1.arr idh ih.2).trans iA
      have iT1 := (hF1.arr idt it.2).trans iT
      have hks : (nextP code k).length ≤ 2 := by
        unfold nextP
        rw [hi]
        dsimp only
        repeat' split
        all_goals simp
      simp [-Int.natCast_add, isM, xappendM, rowsIn, -List.map_append, e0, e1, e2, e3, hpop', iA1, hrowh]
      refine (next_calls h1 _ code (by omega) (iC.fr hF1) k hkl).mono ?_
      rintro _ h2 ⟨⟨rid, rsz, rfl, rz⟩, hF2⟩
      generalize hgk : nextP code k = ks at hst hks rz
      simp [-Int.natCast_add, isM, xappendM, rowsIn, -List.map_append, e0, e1, e2, e3]
      refine XW.loopH (HtK h (.msl cid 0 code.length 3) code k i ks (.slc rid rsz (ks.map intV)) hl2 todo2) (ks.length + 1) ?_ ?_
      · refine ⟨0, hl', L, idh, idt, by omega, by omega, by simpa using hst, ⟨(iF.trans hF1).trans hF2, (iC.fr hF1).fr hF2, (hF2.arr idh (Nat.lt_of_lt_of_le ih.2 hF1.next)).trans iA1, ⟨[intV (k : Nat)] ++ r, ?_⟩, ⟨ih.1, Nat.lt_of_lt_of_le ih.2 (Nat.le_trans hF1.next hF2.next)⟩, ⟨it.1, Nat.lt_of_lt_of_le it.2 (Nat.le_trans hF1.next hF2.next)⟩, ine, ilen⟩, ?_⟩
        · rw [(hF2.arr idt (Nat.lt_of_lt_of_le it.2 hF1.next)).trans iT1]
          simp [natI]
        · simp [-Int.natCast_add, isM, xappendM, rowsIn, e0, e1, e2, e3]
      clear hst hne0 hw hlt hle hcap hrowt hrowh hcr' hrowc iT iT1 iA iA1 iC iF e0 e1 e2 e3 hF1 hF2 ih it ine ilen hx
      rintro m fr' h' ⟨j, hl, td, idh, idt, hm, hj, hst, ⟨iF, iC, iA, ⟨r, iT⟩, ih, it, ine, ilen⟩, e0, e1, e2, e3, e4, e5, e6, e7⟩
      have htd := (hStep_len _ _ _ _ _ _ _ _ hst).1
      have hcr' := (iF.arr cid hcid).trans hcr
      have hrowc : (code.map insV ++ cr)[k]? = some [.lit (.int .i64 i.1), .lit (.int .i64 i.2.1), .lit (.int .i64 i.2.2)] := by
        rw [List.getElem?_append_left (by simpa using hkl), List.getElem?_map, hi]
        rfl
      rcases Nat.lt_or_ge j ks.length with hjl | hjl
      · have hjl' : (j : Int) < (ks.length : Int) := by omega
        have z1 := (rz (by intro h0; rw [h0] at hjl; cases hjl)).1
        subst z1
        have hwj : IntKind.i64.wrap ((j : Int) + 1) = ((j + 1 : Nat) : Int) := wrapS (a := j) (b := 1) (by omega)
        rw [List.drop_eq_getElem_cons hjl] at hst
        generalize htt : ks[j] = t at hst
        unfold hStep at hst
        split at hst
        case h_2 => cases hst
        rename_i x y hx hy
        split at hst
        case isTrue => cases hst
        rename_i hcond
        have hc2 : leB (code.length : Nat) t = false ∧ ltB t 0 = false ∧ ltB 64 (IntKind.i64.wrap (IntKind.i64.wrap (x - popsP i) + pushesP i)) = false ∧ (leB 0 y && !(y == IntKind.i64.wrap (IntKind.i64.wrap (x - popsP i) + pushesP i))) = false := by
          simpa [Bool.or_eq_false_iff, and_assoc] using hcond
        obtain ⟨c1, c2, c3, c4⟩ := hc2
        generalize hnn : IntKind.i64.wrap (IntKind.i64.wrap (x - popsP i) + pushesP i) = nn at hst c3 c4
        have hrowh : (hl.map intV)[k]? = some [.lit (.int .i64 x)] := by rw [List.getElem?_map, hx]; rfl
        have hrowy : (hl.map intV)[t.toNat]? = some [.lit (.int .i64 y)] := by rw [List.getElem?_map, hy]; rfl
        have t0 : 0 ≤ t := by
          apply Classical.byContradiction; intro hn; rw [ltB_t (by omega)] at c2; cases c2
        have t1 : t < (code.length : Int) := by
          apply Classical.byContradiction; intro hn; rw [leB_t (by omega)] at c1; cases c1
        have hlit : intV t = [.lit (.int .i64 t)] := rfl
        simp [-Int.natCast_add, isM, xappendM, rowsIn, -List.map_append, e0, e1, e2, e3, e4, e5, e6, e7, hjl, hjl', ltB_t, htt, hlit]
        refine XW.drawB mixed (L := [0, 1, 2, 3, 4, 5, 6, 7, 10, 11, 12, 13, 8, 9, 14, 15, 16]) (B := [0, 0, 3, 7, 0, 0, 48, 112, 240, 511, 0, 0, 3072, 7168, 15856, 32767, 65535]) (by kernel_rfl) (by kernel_rfl) ?_
        simp only [List.map_cons, List.map_nil, item]
        simp only [annot, fillOf, findFill, findStore, srcOf, List.getD_cons_succ, List.getD_cons_zero]
        simp [-Int.natCast_add, isM, xappendM, rowsIn, -List.map_append, e0, e1, e2, e3, e4, e5, e6, e7, iA, hrowh, hkl, hkl', hcr', hrowc]
        refine (pops_calls h' i).mono ?_
        rintro _ h1 ⟨rfl, hF1⟩
        have hcr1 := (hF1.arr cid (Nat.lt_of_lt_of_le hcid iF.next)).trans hcr'
        simp [-Int.natCast_add, isM, xappendM, rowsIn, -List.map_append, e0, e1, e2, e3, e4, e5, e6, e7, hkl, hkl', hcr1, hrowc, (hF1.arr idh ih.2).trans iA, hrowh]
        refine (pushes_calls h1 i).mono ?_
        rintro _ h2 ⟨rfl, hF2⟩
        have hF12 := hF1.trans hF2
        have iA2 := (hF12.arr idh ih.2).trans iA
        have iT2 := (hF12.arr idt it.2).trans iT
        have hn2 := hF12.next
        have iC2 := iC.fr hF12
        have iF2 := iF.trans hF12
        clear iA iT iC iF hcr' hF1 hF2
        cases hy0 : leB 0 y
        · have hy1 : ltB y 0 = true := by
            apply ltB_t
            apply Classical.byContradiction; intro hn; rw [leB_t (by omega)] at hy0; cases hy0
          rw [if_pos hy1] at hst
          have hnl : (natI td).length = td.length := by simp [natI]
          have n1 : idt ≠ h2.next := by omega
          have ine' : idt ≠ idh := fun h0 => ine h0.symm
          have mL : td.length + 1 ≤ maxLen := by unfold maxLen; omega
          have mB : (td.length + 1) * 8 ≤ 140737488355328 := by omega
          have htk : List.take td.length ((natI td).map intV ++ r) = (natI td).map intV := by
            rw [List.take_append_of_le_length (by simp [natI])]
            exact List.take_of_length_le (by simp [natI])
          simp [-Int.natCast_add, isM, xappendM, rowsIn, -List.map_append, e0, e1, e2, e3, e4, e5, e6, e7, hnn, c1, c3, hy0, hy1, t0, t1, iA2, hrowh, hrowy, n1, ine', iT2, hnl, mL, mB, htk]
          refine ⟨m - 1, by omega, j + 1, hl.set t.toNat nn, td ++ [t.toNat], idh, h2.next + 1, by omega, by omega, hst, ⟨((iF2.putArr (by omega) _).newArr1 _).moveArr (by omega) _, ?_, ?_, ⟨[], ?_⟩, ⟨ih.1, ?_⟩, ⟨by have := iF2.next; omega, ?_⟩, by omega, by simpa using ilen⟩, ?_⟩
          · obtain ⟨cid', cr', hce, hclt, hca⟩ := iC2
            injection hce with hce1
            subst hce1
            have := iF2.next
            refine ⟨cid, cr', rfl, by simp only [H.moveArr_next, H.newArr_next, H.putArr_next]; omega, ?_⟩
            simp only [H.moveArr_get, H.newArr_get, H.putArr_get, H.newArr_next, H.putArr_next]
            rw [if_neg (by omega), if_neg (by omega), if_neg (by omega), if_neg (by omega)]
            exact hca
          · simp only [H.moveArr_get, H.newArr_get, H.putArr_get, H.newArr_next, H.putArr_next]
            rw [if_neg (by omega), if_neg (by omega), if_neg (by omega)]
            simp [intV, List.map_set]
          · have htn : ((t.toNat : Nat) : Int) = t := by omega
            simp [H.moveArr_get, H.newArr_next, H.putArr_next, natI, intV, htn]
          · simp only [H.moveArr_next, H.newArr_next, H.putArr_next]; omega
          · simp only [H.moveArr_next, H.newArr_next, H.putArr_next]; omega
          · have hwt : List.length (td ++ [t.toNat]) = td.length + 1 := by simp
            rw [hwt]
            simp [-Int.natCast_add, isM, xappendM, rowsIn, e0, e1, e2, e3, e4, e5, e6, e7, hwj]
        · have hy1 : ltB y 0 = false := by
            apply ltB_f
            apply Classical.byContradiction; intro hn; rw [leB_f (by omega)] at hy0; cases hy0
          rw [hy0] at c4
          have hyn : (y == nn) = true := by simpa using c4
          rw [if_neg (by rw [hy1]; simp)] at hst
          simp [-Int.natCast_add, isM, xappendM, rowsIn, -List.map_append, e0, e1, e2, e3, e4, e5, e6, e7, hnn, c1, c3, hy0, hy1, hyn, t0, t1, iA2, hrowy, hrowh]
          refine ⟨m - 1, by omega, j + 1, hl, td, idh, idt, by omega, by omega, hst, ⟨iF2, iC2, iA2, ⟨r, iT2⟩, ⟨ih.1, by omega⟩, ⟨it.1, by omega⟩, ine, ilen⟩, ?_⟩
          simp [-Int.natCast_add, isM, xappendM, rowsIn, e0, e1, e2, e3, e4, e5, e6, e7, hwj]
      · have hje : j = ks.length := by omega
        have hlf : ltB (j : Int) (ks.length : Int) = false := ltB_f (by omega)
        rw [List.drop_of_length_le (by omega)] at hst
        unfold hStep at hst
        obtain ⟨rfl, rfl⟩ := Prod.mk.inj (Option.some.inj hst)
        simp [-Int.natCast_add, isM, xappendM, rowsIn, e0, e1, e2, e3, e4, e5, e6, e7, hlf]
        refine ⟨n, by omega, hl, td, idh, idt, hL, ht2, ⟨iF, iC, iA, ⟨r, iT⟩, ih, it, ine, ilen⟩, ?_⟩
        simp [-Int.natCast_add, isM, xappendM, rowsIn, e0, e1, e2, e3, e4]
end Go.Proofs.YtjofmihdeblbmaaGreatDoor.Xa

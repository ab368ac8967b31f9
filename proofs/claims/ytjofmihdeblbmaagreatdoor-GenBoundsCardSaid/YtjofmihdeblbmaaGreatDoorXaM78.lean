/- XA: plain: GenTicks, GenBounds: texts, trees, code, heights and cycles of code without jumps. -/
import Derived.Test.YtjofmihdeblbmaaGreatDoorXaM77
import Derived.Test.YtjofmihdeblbmaaGreatDoorXaM34
namespace Go.Proofs.YtjofmihdeblbmaaGreatDoor.Xa
open Go Go.RowKit
set_option linter.unusedVariables false
set_option linter.unusedSimpArgs false
set_option maxRecDepth 100000
set_option maxHeartbeats 2000000
/-! more statements: while 0 { f ( ) ; }, while len ( [ ] ) { }, f ( ) ;, 1 == 1 ; -/
abbrev TkT := Int × ByteArray × Int
def AtT (c : PC) : Nat → List TkT → Prop
  | _, [] => True
  | i, t :: ts => tk c i = some t ∧ AtT c (i + 1) ts
theorem AtT.append {c : PC} : ∀ {i : Nat} {a b : List TkT}, AtT c i (a ++ b) ↔ AtT c i a ∧ AtT c (i + a.length) b
  | i, [], b => by simp [AtT]
  | i, t :: a, b => by
    have := @AtT.append c (i + 1) a b
    simp only [List.cons_append, AtT, this, List.length_cons, and_assoc]
    rw [show i + 1 + a.length = i + (a.length + 1) by omega]
theorem At.t {c : PC} : ∀ {ws : List (List UInt8)} {i : Nat}, At c i ws → AtT c i (ws.map tkW)
  | [], _, _ => trivial
  | w :: ws, i, h => ⟨h.1, At.t h.2⟩
def sgn (l : List UInt8) : TkT := (6, ⟨l.toArray⟩, 0)
def t_lb : TkT := (6, ⟨#[123]⟩, 0)
def t_rb : TkT := (6, ⟨#[125]⟩, 0)
def t_lp : TkT := (6, ⟨#[40]⟩, 0)
def t_rp : TkT := (6, ⟨#[41]⟩, 0)
def t_ls : TkT := (6, ⟨#[91]⟩, 0)
def t_rs : TkT := (6, ⟨#[93]⟩, 0)
def t_semi : TkT := (6, ⟨#[59]⟩, 0)
def t_eqeq : TkT := (6, ⟨#[61, 61]⟩, 0)
def t_while : TkT := (2, ⟨#[119, 104, 105, 108, 101]⟩, 0)
def t_f : TkT := (1, ⟨#[102]⟩, 0)
def t_len : TkT := (1, ⟨#[108, 101, 110]⟩, 0)
def t_int (n : Int) : TkT := (3, ⟨#[]⟩, n)
inductive Tm where
  | wf | wl | cf | eq
def Tm.tks : Tm → List TkT
  | .wf => [t_while, t_int 0, t_lb, t_f, t_lp, t_rp, t_semi, t_rb]
  | .wl => [t_while, t_len, t_lp, t_ls, t_rs, t_rp, t_lb, t_rb]
  | .cf => [t_f, t_lp, t_rp, t_semi]
  | .eq => [t_int 1, t_eqeq, t_int 1, t_semi]
def n_call : Nd := .mk 9 0 ⟨#[]⟩ 0 [.mk 20 0 ⟨#[102]⟩ 0 []]
def n_int (n : Int) : Nd := .mk 15 0 ⟨#[]⟩ n []
def Tm.nd : Tm → Nd
  | .wf => .mk 4 0 ⟨#[]⟩ 0 [n_int 0, .mk 10 0 ⟨#[]⟩ 0 [n_call]]
  | .wl => .mk 4 0 ⟨#[]⟩ 0 [.mk 20 0 ⟨#[108, 101, 110]⟩ 0 [.mk 21 0 ⟨#[]⟩ 0 []], .mk 10 0 ⟨#[]⟩ 0 []]
  | .cf => n_call
  | .eq => .mk 9 0 ⟨#[]⟩ 0 [.mk 11 6 ⟨#[]⟩ 0 [n_int 1, n_int 1]]
theorem call_f {c : PC} {i : Nat} {d a : Int} {b : ByteArray} {m : Int} (h : AtT c i [t_f, t_lp, t_rp]) (h3 : tk c (i + 3) = some (6, b, m)) (hb : b = ⟨#[59]⟩ ∨ b = ⟨#[123]⟩ ∨ b = ⟨#[41]⟩ ∨ b = ⟨#[93]⟩) (hd : -1000 ≤ d ∧ d < 24) (f : Nat) :
    pLevel (f + 30) c ⟨i, d, a, 0⟩ 1 = some (.mk 20 0 ⟨#[102]⟩ 0 [], ⟨i + 3, d, a, 0⟩) := by
  obtain ⟨h0, h1, h2, _⟩ := h
  refine plain_all (f := f + 15) rfl (stop_at h3 hb) (by rw [isB_at h0]; rfl) (by rw [isB_at h0]; rfl) ?_
  have w1 : wr (d + 1) = d + 1 := wr_id (by omega) (by omega)
  have w2 : wr d = d := wr_id (by omega) (by omega)
  have hle : leB 24 d = false := by unfold leB; simp; omega
  have hc : calls1 c ⟨i, d, a, 0⟩ = true := by rw [calls_at h1]; rfl
  have ht : isB c ⟨i + 2, d + 1, a, 0⟩ 6 ⟨#[41]⟩ = true := by rw [isB_at h2]; rfl
  rw [pPlain, kind_at h0]
  simp [pNamed, hc, text_at h0, entS, hle, inS, outS, w1, w2, pList, ht, opS]
theorem call_len {c : PC} {i : Nat} {d a : Int} {b : ByteArray} {m : Int} (h : AtT c i [t_len, t_lp, t_ls, t_rs, t_rp]) (h5 : tk c (i + 5) = some (6, b, m)) (hb : b = ⟨#[59]⟩ ∨ b = ⟨#[123]⟩ ∨ b = ⟨#[41]⟩ ∨ b = ⟨#[93]⟩) (hd : -1000 ≤ d ∧ d < 23) (f : Nat) :
    pLevel (f + 60) c ⟨i, d, a, 0⟩ 1 = some (.mk 20 0 ⟨#[108, 101, 110]⟩ 0 [.mk 21 0 ⟨#[]⟩ 0 []], ⟨i + 5, d, a, 0⟩) := by
  obtain ⟨h0, h1, h2, h3, h4, _⟩ := h
  refine plain_all (f := f + 45) rfl (stop_at h5 hb) (by rw [isB_at h0]; rfl) (by rw [isB_at h0]; rfl) ?_
  have w1 : wr (d + 1) = d + 1 := wr_id (by omega) (by omega)
  have w2 : wr d = d := wr_id (by omega) (by omega)
  have w3 : wr (d + 1 + 1) = d + 1 + 1 := wr_id (by omega) (by omega)
  have hle : leB 24 d = false := by unfold leB; simp; omega
  have hle1 : leB 24 (d + 1) = false := by unfold leB; simp; omega
  have hc : calls1 c ⟨i, d, a, 0⟩ = true := by rw [calls_at h1]; rfl
  have ht : isB c ⟨i + 2, d + 1, a, 0⟩ 6 ⟨#[41]⟩ = false := by rw [isB_at h2]; rfl
  have hls : isB c ⟨i + 2, d + 1, a, 0⟩ 6 ⟨#[91]⟩ = true := by rw [isB_at h2]; rfl
  have hni : isB c ⟨i + 2, d + 1, a, 0⟩ 2 ⟨#[110, 105, 108]⟩ = false := by rw [isB_at h2]; rfl
  have hrs : isB c ⟨i + 3, d + 1 + 1, a, 0⟩ 6 ⟨#[93]⟩ = true := by rw [isB_at h3]; rfl
  have hrp : isB c ⟨i + 4, d + 1, a, 0⟩ 6 ⟨#[41]⟩ = true := by rw [isB_at h4]; rfl
  have hco : isB c ⟨i + 4, d + 1, a, 0⟩ 6 ⟨#[44]⟩ = false := by rw [isB_at h4]; rfl
  have hl : pLevel (f + 40) c ⟨i + 2, d + 1, a, 0⟩ 1 = some (.mk 21 0 ⟨#[]⟩ 0 [], ⟨i + 4, d + 1, a, 0⟩) := by
    refine plain_all (f := f + 25) rfl (stop_at h4 (.inr (.inr (.inl rfl)))) (by rw [isB_at h2]; rfl) (by rw [isB_at h2]; rfl) ?_
    rw [pPlain, kind_at h2]
    simp [pOther, hni, hls, entS, hle1, inS, outS, w1, w3, pList, hrs, opS]
  obtain ⟨g, hg⟩ : ∃ g, f + 45 = g + 5 := ⟨f + 40, by omega⟩
  rw [pPlain, kind_at h0]
  have hl' : pLevel (f + 42) c ⟨i + 2, d + 1, a, 0⟩ 1 = some (.mk 21 0 ⟨#[]⟩ 0 [], ⟨i + 4, d + 1, a, 0⟩) := by
    refine plain_all (f := f + 27) rfl (stop_at h4 (.inr (.inr (.inl rfl)))) (by rw [isB_at h2]; rfl) (by rw [isB_at h2]; rfl) ?_
    rw [pPlain, kind_at h2]
    simp [pOther, hni, hls, entS, hle1, inS, outS, w1, w3, pList, hrs, opS]
  simp [pNamed, hc, text_at h0, entS, hle, inS, outS, w1, w2, pList, ht, pListL, hl', opS, hco, wantS, hrp]
theorem stat_cf {c : PC} {i : Nat} {d a : Int} (h : AtT c i [t_f, t_lp, t_rp, t_semi]) (hd : -1000 ≤ d ∧ d < 24) (f : Nat) :
    pStat (f + 40) c ⟨i, d, a, 0⟩ = some (n_call, ⟨i + 4, d, a, 0⟩) := by
  obtain ⟨h0, h1, h2, h3, _⟩ := h
  have hl := call_f (d := d) (a := a) ⟨h0, h1, h2, trivial⟩ h3 (.inl rfl) hd (f + 8)
  have hs : sets1 c ⟨i, d, a, 0⟩ = false := by rw [sets_at h1]; rfl
  have hsm : isB c ⟨i + 3, d, a, 0⟩ 6 ⟨#[59]⟩ = true := by rw [isB_at h3]; rfl
  simp [pStat, pSimple, isB_at h0, t_f, kind_at h0, hs, semi, hl, wantS, hsm, opS, n_call]
theorem blk_one {c : PC} {i : Nat} {d a : Int} (f : Nat) (nd : Nd) (j : Nat) (h : tk c i = some t_lb) (hn : isB c ⟨i + 1, d + 1, a, 0⟩ 6 ⟨#[125]⟩ = false) (hs : pStat (f + 40) c ⟨i + 1, d + 1, a, 0⟩ = some (nd, ⟨j, d + 1, a, 0⟩)) (h2 : tk c j = some t_rb) (hd : -1000 ≤ d ∧ d < 24) :
    pBlock (f + 42) c ⟨i, d, a, 0⟩ = some (.mk 10 0 ⟨#[]⟩ 0 [nd], ⟨j + 1, d, a, 0⟩) := by
  have w1 : wr (d + 1) = d + 1 := wr_id (by omega) (by omega)
  have w2 : wr d = d := wr_id (by omega) (by omega)
  have hle : leB 24 d = false := by unfold leB; simp; omega
  have hb : isB c ⟨i, d, a, 0⟩ 6 ⟨#[123]⟩ = true := by rw [isB_at h]; rfl
  have hr : isB c ⟨j, d + 1, a, 0⟩ 6 ⟨#[125]⟩ = true := by rw [isB_at h2]; rfl
  simp [pBlock, begS, hb, entS, hle, inS, outS, w1, w2, pBlockL, hn, hs, hr, opS]
theorem blk_none {c : PC} {i : Nat} {d a : Int} (f : Nat) (h : tk c i = some t_lb) (h2 : tk c (i + 1) = some t_rb) (hd : -1000 ≤ d ∧ d < 24) :
    pBlock (f + 42) c ⟨i, d, a, 0⟩ = some (.mk 10 0 ⟨#[]⟩ 0 [], ⟨i + 2, d, a, 0⟩) := by
  have w1 : wr (d + 1) = d + 1 := wr_id (by omega) (by omega)
  have w2 : wr d = d := wr_id (by omega) (by omega)
  have hle : leB 24 d = false := by unfold leB; simp; omega
  have hb : isB c ⟨i, d, a, 0⟩ 6 ⟨#[123]⟩ = true := by rw [isB_at h]; rfl
  have hr : isB c ⟨i + 1, d + 1, a, 0⟩ 6 ⟨#[125]⟩ = true := by rw [isB_at h2]; rfl
  simp [pBlock, begS, hb, entS, hle, inS, outS, w1, w2, pBlockL, hr, opS]
theorem stat_wf {c : PC} {i : Nat} {d a : Int} (h : AtT c i (Tm.tks .wf)) (hd : -1000 ≤ d ∧ d < 23) (f : Nat) :
    pStat (f + 43) c ⟨i, d, a, 0⟩ = some (Tm.nd .wf, ⟨i + 8, d, a, 0⟩) := by
  obtain ⟨h0, h1, h2, h3, h4, h5, h6, h7, _⟩ := h
  have hl := leaf_int (d := d) (a := a) h1 h2 (.inr (.inl rfl)) (f + 22)
  have hs := stat_cf (c := c) (i := i + 3) (d := d + 1) (a := a) ⟨h3, h4, h5, h6, trivial⟩ (by omega) f
  have hb := blk_one (d := d) (a := a) f n_call (i + 7) h2 (by rw [isB_at h3]; rfl) hs h7 (by omega)
  have e1 : isB c ⟨i, d, a, 0⟩ 2 ⟨#[105, 102]⟩ = false := by rw [isB_at h0]; rfl
  have e2 : isB c ⟨i, d, a, 0⟩ 2 ⟨#[119, 104, 105, 108, 101]⟩ = true := by rw [isB_at h0]; rfl
  simp [pStat, e1, e2, opS, hl, hb, Tm.nd, n_int]
theorem stat_wl {c : PC} {i : Nat} {d a : Int} (h : AtT c i (Tm.tks .wl)) (hd : -1000 ≤ d ∧ d < 23) (f : Nat) :
    pStat (f + 63) c ⟨i, d, a, 0⟩ = some (Tm.nd .wl, ⟨i + 8, d, a, 0⟩) := by
  obtain ⟨h0, h1, h2, h3, h4, h5, h6, h7, _⟩ := h
  have hl := call_len (d := d) (a := a) ⟨h1, h2, h3, h4, h5, trivial⟩ h6 (.inr (.inl rfl)) hd (f + 2)
  have hb := blk_none (d := d) (a := a) (f + 20) h6 h7 (by omega)
  have e1 : isB c ⟨i, d, a, 0⟩ 2 ⟨#[105, 102]⟩ = false := by rw [isB_at h0]; rfl
  have e2 : isB c ⟨i, d, a, 0⟩ 2 ⟨#[119, 104, 105, 108, 101]⟩ = true := by rw [isB_at h0]; rfl
  simp [pStat, e1, e2, opS, hl, hb, Tm.nd]
/-- == stands here: levels 4 to 6 end -/
theorem eq_row {c : PC} {i : Nat} {d a : Int} (h : tk c i = some t_eqeq) (n : Int) (hn : n = 4 ∨ n = 5) : findS c ⟨i, d, a, 0⟩ n = (0, ⟨i, d, a, 0⟩) := by
  unfold findS binsOf
  rcases hn with rfl | rfl <;> simp [findL, isB_at h, t_eqeq]
theorem up_row4 {c : PC} {s s1 : PS} {nd : Nd} {f : Nat} {n : Int} (he : s.e = 0) (hn : n = 4 ∨ n = 5) (hs : findS c s1 n = (0, s1)) (h : pLevel (f + 1) c s (wr (n + 1)) = some (nd, s1)) : pLevel (f + 3) c s n = some (nd, s1) := by
  have h1 : leB n 2 = false := by unfold leB; simp; omega
  have h2 : ltB n 6 = true := by unfold ltB; simp; omega
  rw [pLevel, he, h1, h2]
  simp only [beq_self_eq_true, Bool.not_true, Bool.false_eq_true, if_false, if_true]
  rw [pRow, h]
  simp only
  rw [hs, pRowL]
  rfl
theorem int4_eq {c : PC} {i : Nat} {d a n : Int} (h0 : tk c i = some (t_int n)) (h1 : tk c (i + 1) = some t_eqeq) (f : Nat) :
    pLevel (f + 20) c ⟨i, d, a, 0⟩ 4 = some (n_int n, ⟨i + 1, d, a, 0⟩) := by
  have hp : pPlain (f + 12) c ⟨i, d, a, 0⟩ = some (n_int n, ⟨i + 1, d, a, 0⟩) := by
    rw [pPlain, kind_at h0, num_at h0]; rfl
  have h7 := lvl7 (f := f + 11) rfl (by rw [isB_at h1]; rfl) hp
  have h6 : pLevel (f + 16) c ⟨i, d, a, 0⟩ 6 = some (n_int n, ⟨i + 1, d, a, 0⟩) := by
    rw [up_unary rfl (by rw [isB_at h0]; rfl) (by rw [isB_at h0]; rfl)]; exact h7
  have h5 := up_row4 (n := 5) (f := f + 15) rfl (.inr rfl) (eq_row h1 5 (.inr rfl)) (by rw [show wr (5 + 1) = 6 by decide]; exact h6)
  exact up_row4 (n := 4) (f := f + 17) rfl (.inl rfl) (eq_row h1 4 (.inl rfl)) (by rw [show wr (4 + 1) = 5 by decide]; exact h5)
theorem int4_semi {c : PC} {i : Nat} {d a n : Int} (h0 : tk c i = some (t_int n)) (h1 : tk c (i + 1) = some t_semi) (f : Nat) :
    pLevel (f + 20) c ⟨i, d, a, 0⟩ 4 = some (n_int n, ⟨i + 1, d, a, 0⟩) := by
  have st := stop_at (d := d) (a := a) h1 (.inl rfl)
  have hp : pPlain (f + 12) c ⟨i, d, a, 0⟩ = some (n_int n, ⟨i + 1, d, a, 0⟩) := by
    rw [pPlain, kind_at h0, num_at h0]; rfl
  have h7 := lvl7 (f := f + 11) rfl (by rw [isB_at h1]; rfl) hp
  have h6 : pLevel (f + 16) c ⟨i, d, a, 0⟩ 6 = some (n_int n, ⟨i + 1, d, a, 0⟩) := by
    rw [up_unary rfl (by rw [isB_at h0]; rfl) (by rw [isB_at h0]; rfl)]; exact h7
  have h5 := up_row4 (n := 5) (f := f + 15) rfl (.inr rfl) (st.row 5) (by rw [show wr (5 + 1) = 6 by decide]; exact h6)
  exact up_row4 (n := 4) (f := f + 17) rfl (.inl rfl) (st.row 4) (by rw [show wr (4 + 1) = 5 by decide]; exact h5)
theorem level_eq {c : PC} {i : Nat} {d a : Int} (h : AtT c i (Tm.tks .eq)) (f : Nat) :
    pLevel (f + 30) c ⟨i, d, a, 0⟩ 1 = some (.mk 11 6 ⟨#[]⟩ 0 [n_int 1, n_int 1], ⟨i + 3, d, a, 0⟩) := by
  obtain ⟨h0, h1, h2, h3, _⟩ := h
  have st := stop_at (d := d) (a := a) h3 (.inl rfl)
  have l1 := int4_eq (d := d) (a := a) h0 h1 (f + 4)
  have l2 := int4_semi (d := d) (a := a) h2 h3 (f + 3)
  have hf : findS c ⟨i + 1, d, a, 0⟩ 3 = (6, ⟨i + 2, d, a, 0⟩) := by
    unfold findS binsOf
    simp [findL, isB_at h1, t_eqeq, opS]
  have h3' : pLevel (f + 26) c ⟨i, d, a, 0⟩ 3 = some (.mk 11 6 ⟨#[]⟩ 0 [n_int 1, n_int 1], ⟨i + 3, d, a, 0⟩) := by
    have g1 : leB 3 2 = false := rfl
    have g2 : ltB 3 6 = true := rfl
    rw [pLevel, g1, g2]
    simp only [beq_self_eq_true, Bool.not_true, Bool.false_eq_true, if_false, if_true]
    rw [pRow, show wr (3 + 1) = 4 by decide, l1]
    simp only
    rw [hf, pRowL, show wr (3 + 1) = 4 by decide, l2]
    rfl
  have a2 := up_logic (n := 2) (f := f + 25) rfl (by decide) st (by rw [show wr (2 + 1) = 3 by decide]; exact h3')
  exact up_logic (n := 1) (f := f + 27) rfl (by decide) st (by rw [show wr (1 + 1) = 2 by decide]; exact a2)
theorem stat_eq {c : PC} {i : Nat} {d a : Int} (h : AtT c i (Tm.tks .eq)) (f : Nat) :
    pStat (f + 40) c ⟨i, d, a, 0⟩ = some (Tm.nd .eq, ⟨i + 4, d, a, 0⟩) := by
  have hl := level_eq (d := d) (a := a) h (f + 8)
  obtain ⟨h0, h1, h2, h3, _⟩ := h
  have hsm : isB c ⟨i + 3, d, a, 0⟩ 6 ⟨#[59]⟩ = true := by rw [isB_at h3]; rfl
  simp [pStat, pSimple, isB_at h0, t_int, kind_at h0, semi, hl, wantS, hsm, opS, Tm.nd]
theorem tm_ok {c : PC} {i : Nat} {d a : Int} (t : Tm) (h : AtT c i t.tks) (hd : -1000 ≤ d ∧ d < 23) (f : Nat) : pStat (f + 70) c ⟨i, d, a, 0⟩ = some (t.nd, ⟨i + t.tks.length, d, a, 0⟩) := by
  cases t with
  | wf => exact stat_wf h hd (f + 27)
  | wl => exact stat_wl h hd (f + 7)
  | cf => exact stat_cf h (by omega) (f + 30)
  | eq => exact stat_eq h (f + 30)
theorem tms_ok {c : PC} : ∀ (l : List Tm) (f i : Nat) (d a : Int) (acc : List Nd), (-1000 ≤ d ∧ d < 23) → AtT c i (l.flatMap Tm.tks ++ [t_rb]) → pBlockL (f + l.length + 72) c ⟨i, d, a, 0⟩ acc = some (acc ++ l.map Tm.nd, ⟨i + (l.flatMap Tm.tks).length + 1, d, a, 0⟩)
  | [], f, i, d, a, acc, hd, h => by
    have hr : isB c ⟨i, d, a, 0⟩ 6 ⟨#[125]⟩ = true := by rw [isB_at h.1]; rfl
    rw [pBlockL]
    simp [hr, opS]
  | t :: l, f, i, d, a, acc, hd, h => by
    rw [List.flatMap_cons, List.append_assoc] at h
    obtain ⟨a1, a2⟩ := AtT.append.1 h
    have hs := tm_ok t a1 hd (f + l.length + 2) (a := a)
    have hn : isB c ⟨i, d, a, 0⟩ 6 ⟨#[125]⟩ = false := by
      cases t <;> rw [isB_at a1.1] <;> rfl
    have ih := tms_ok l f (i + t.tks.length) d a (acc ++ [t.nd]) hd a2
    rw [show f + (t :: l).length + 72 = (f + l.length + 2 + 70) + 1 by simp; omega, pBlockL]
    have hf : f + l.length + 2 + 70 = f + l.length + 72 := by omega
    rw [hf] at hs ⊢
    simp [hn, hs, ih]
    omega
end Go.Proofs.YtjofmihdeblbmaaGreatDoor.Xa
namespace Go.Proofs.YtjofmihdeblbmaaGreatDoor.Xa
open Go Go.RowKit
set_option linter.unusedVariables false
set_option linter.unusedSimpArgs false
set_option maxRecDepth 100000
set_option maxHeartbeats 2000000
def t_fn : TkT := (2, ⟨#[102, 110]⟩, 0)
def FT := ByteArray × List Tm
def FT.tks (F : ByteArray × List Tm) : List TkT := [t_fn, (1, F.1, 0), t_lp, t_rp, t_lb] ++ (F.2.flatMap Tm.tks ++ [t_rb])
def FT.fn (F : ByteArray × List Tm) : FnN := ⟨F.1, [], .mk 10 0 ⟨#[]⟩ 0 (F.2.map Tm.nd)⟩
theorem funT_ok (c : PC) (F : ByteArray × List Tm) (f i : Nat) (a : Int) (hf : F.2.length + 80 ≤ f) (ha : AtT c i (FT.tks F)) :
    pFun f c ⟨i, 0, a, 0⟩ = some (FT.fn F, ⟨i + (FT.tks F).length, 0, a, 0⟩) := by
  obtain ⟨b, l⟩ := F
  unfold FT.tks at ha
  obtain ⟨a1, a2⟩ := AtT.append.1 ha
  obtain ⟨h0, h1, h2, h3, h4, _⟩ := a1
  simp only at hf h1
  obtain ⟨g, rfl⟩ : ∃ g, f = g + l.length + 72 + 1 := ⟨f - l.length - 73, by omega⟩
  have hb := tms_ok l g (i + 5) 1 a [] (by omega) a2
  have hfn : fnS c ⟨i, 0, a, 0⟩ = ⟨i + 1, 0, a, 0⟩ := by
    have : isB c ⟨i, 0, a, 0⟩ 2 ⟨#[102, 110]⟩ = true := by rw [isB_at h0]; rfl
    simp [fnS, this, opS]
  have hlp : isB c ⟨i + 2, 0, a, 0⟩ 6 ⟨#[40]⟩ = true := by rw [isB_at h2]; rfl
  have hrp : isB c ⟨i + 3, 0, a, 0⟩ 6 ⟨#[41]⟩ = true := by rw [isB_at h3]; rfl
  have hlb : isB c ⟨i + 4, 0, a, 0⟩ 6 ⟨#[123]⟩ = true := by rw [isB_at h4]; rfl
  have hpar : parS c ⟨i, 0, a, 0⟩ = ⟨i + 3, 0, a, 0⟩ := by
    unfold parS
    rw [hfn]
    simp [nameS, kind_at h1, wantS, hlp, opS]
  unfold pFun
  rw [hpar]
  simp only [pPar, hrp, opS, if_true]
  rw [pBlock]
  have w1 : wr 1 = 1 := by decide
  have w2 : wr 0 = 0 := by decide
  simp only [begS, hlb, entS, leB, inS]
  simp [hb, hfn, name_at h1, outS, w1, w2, FT.fn, FT.tks]
  omega
theorem progLT_ok (c : PC) (F0 : Nat) : ∀ (l : List (ByteArray × List Tm)) (m i : Nat) (a : Int) (acc : List FnN), l.length + 1 ≤ m → (∀ F ∈ l, F.2.length + 80 ≤ F0) → AtT c i (l.flatMap FT.tks) → i + (l.flatMap FT.tks).length = c.toks.length →
    pProgL F0 m c ⟨i, 0, a, 0⟩ false acc = some (acc ++ l.map FT.fn, false, ⟨c.toks.length, 0, a, 0⟩)
  | [], m, i, a, acc, hm, hF, ha, hl => by
    obtain ⟨g, rfl⟩ := Nat.exists_eq_add_of_le' (show 1 ≤ m by omega)
    simp at hl
    rw [pProgL, hl]
    simp
  | F :: l, m, i, a, acc, hm, hF, ha, hl => by
    obtain ⟨g, rfl⟩ := Nat.exists_eq_add_of_le' (show 1 ≤ m by omega)
    rw [List.flatMap_cons] at ha hl
    obtain ⟨a1, a2⟩ := AtT.append.1 ha
    have hw : 0 < (FT.tks F).length := by simp [FT.tks]
    have hfn := funT_ok c F F0 i a (hF F List.mem_cons_self) a1
    have ih := progLT_ok c F0 l g (i + (FT.tks F).length) a (acc ++ [FT.fn F]) (by simp at hm; omega) (fun G hG => hF G (List.mem_cons_of_mem _ hG)) a2 (by rw [← hl]; simp; omega)
    have hi : i < c.toks.length := by rw [← hl]; simp; omega
    have hps : (FT.fn F).params.length = 0 := rfl
    rw [pProgL]
    simp [hi, hfn, hps, ih]
/-- tokens of such functions are read as them -/
theorem progT_of (f : Nat) (hf : f = 1000000) (b : ByteArray) (toks : List Tok) (l : List (ByteArray × List Tm)) (ht : tokensR b = some (toks, 0, 0)) (hA : ∀ n, AtT ⟨0, 0, toks, n⟩ 0 (l.flatMap FT.tks)) (hn : toks.length = (l.flatMap FT.tks).length) (h2 : toks.length ≤ 100000)
    (hF : ∀ F ∈ l, F.2.length ≤ 900000) (hl : l.length ≤ 16) : progT f b = some (l.map FT.fn, 0, 0) := by
  subst hf
  unfold progT
  rw [ht]
  simp only
  rw [if_pos (by omega)]
  have := progLT_ok ⟨0, 0, toks, b.size⟩ 1000000 l 1000000 0 0 [] (by omega) (fun F h => by have := hF F h; omega) (hA _) (by rw [Nat.zero_add, ← hn])
  rw [this]
  unfold progR
  have : (l.map FT.fn).length ≤ 16 := by simpa using hl
  simp
  omega
/-! the text of GenTicks -/
def k_while : List UInt8 := [119, 104, 105, 108, 101]
def k_len : List UInt8 := [108, 101, 110]
def k_main : List UInt8 := [109, 97, 105, 110]
def w_wf : List (List UInt8) := [k_while, [48], [123], [102], [40], [41], [59], [125]]
def w_wl : List (List UInt8) := [k_while, k_len, [40], [91], [93], [41], [123], [125]]
def w_cf : List (List UInt8) := [[102], [40], [41], [59]]
def reps {α : Type} (l : List α) : Nat → List α
  | 0 => []
  | n + 1 => l ++ reps l n
theorem reps_len {α : Type} (l : List α) : ∀ n, (reps l n).length = n * l.length
  | 0 => by simp [reps]
  | n + 1 => by simp [reps, reps_len l n, Nat.succ_mul]; omega
theorem reps_mem {α : Type} (l : List α) {x : α} : ∀ n, x ∈ reps l n → x ∈ l
  | 0, h => by cases h
  | n + 1, h => by
    rcases List.mem_append.1 h with h | h
    · exact h
    · exact reps_mem l n h
def tickW (o l c : Nat) : List (List UInt8) := [k_fn, [102], [40], [41], [123]] ++ (reps w_wf o ++ ([[125], k_fn, k_main, [40], [41], [123]] ++ (reps w_wl l ++ reps w_cf c)))
theorem tickW_good (o l c : Nat) : ∀ w ∈ tickW o l c, goodW w = true := by
  have g1 : ∀ w ∈ [k_fn, [102], [40], [41], [123]], goodW w = true := by decide +kernel
  have g2 : ∀ w ∈ w_wf, goodW w = true := by decide +kernel
  have g3 : ∀ w ∈ [[125], k_fn, k_main, [40], [41], [123]], goodW w = true := by decide +kernel
  have g4 : ∀ w ∈ w_wl, goodW w = true := by decide +kernel
  have g5 : ∀ w ∈ w_cf, goodW w = true := by decide +kernel
  intro w hw
  unfold tickW at hw
  simp only [List.mem_append] at hw
  rcases hw with hw | hw | hw | hw | hw
  · exact g1 w hw
  · exact g2 w (reps_mem _ _ hw)
  · exact g3 w hw
  · exact g4 w (reps_mem _ _ hw)
  · exact g5 w (reps_mem _ _ hw)
def tickL (o l c : Nat) : List (ByteArray × List Tm) := [(⟨#[102]⟩, List.replicate o .wf), (mainB, List.replicate l .wl ++ List.replicate c .cf)]
theorem rep_tks (w : List (List UInt8)) (t : Tm) (h : w.map tkW = t.tks) : ∀ n, (reps w n).map tkW = (List.replicate n t).flatMap Tm.tks
  | 0 => rfl
  | n + 1 => by rw [reps, List.map_append, h, rep_tks w t h n, List.replicate_succ, List.flatMap_cons]
theorem tickW_tks (o l c : Nat) : (tickW o l c ++ [[125]]).map tkW = (tickL o l c).flatMap FT.tks := by
  have e1 : w_wf.map tkW = Tm.tks .wf := by decide +kernel
  have e2 : w_wl.map tkW = Tm.tks .wl := by decide +kernel
  have e3 : w_cf.map tkW = Tm.tks .cf := by decide +kernel
  have e4 : [k_fn, [102], [40], [41], [123]].map tkW = [t_fn, (1, ⟨#[102]⟩, 0), t_lp, t_rp, t_lb] := by decide +kernel
  have e5 : [[125], k_fn, k_main, [40], [41], [123]].map tkW = t_rb :: [t_fn, (1, mainB, 0), t_lp, t_rp, t_lb] := by decide +kernel
  have e6 : [[125]].map tkW = [t_rb] := by decide +kernel
  unfold tickW tickL
  simp only [List.map_append, e4, e5, e6, rep_tks _ _ e1, rep_tks _ _ e2, rep_tks _ _ e3, List.flatMap_cons, List.flatMap_nil, FT.tks, List.flatMap_append]
  simp
theorem tick_prog (b : ByteArray) (o l c : Nat) (ho : o ≤ 7) (hl : l ≤ 7) (hc : c ≤ 7) (hb : b.data.toList = flatW (tickW o l c) ++ [125]) (hs : b.size ≤ 4000) :
    progT 1000000 b = some ((tickL o l c).map FT.fn, 0, 0) := by
  have ht := tokens_words b hs (tickW o l c) [125] (tickW_good o l c) (by decide +kernel) hb
  have hlen : (toksAt 0 (tickW o l c ++ [[125]])).length = ((tickL o l c).flatMap FT.tks).length := by
    rw [toksAt_len, ← tickW_tks, List.length_map]
  refine progT_of 1000000 rfl b _ (tickL o l c) ht (fun n => ?_) hlen ?_ ?_ (by simp [tickL])
  · rw [← tickW_tks]
    exact At.t (at_toks ⟨0, 0, toksAt 0 (tickW o l c ++ [[125]]), n⟩ (tickW o l c ++ [[125]]) 0 [] rfl)
  · rw [toksAt_len]
    unfold tickW
    simp [reps_len, w_wf, w_wl, w_cf]
    omega
  · intro F hF
    simp only [tickL, List.mem_cons, List.not_mem_nil, or_false] at hF
    rcases hF with rfl | rfl <;> simp <;> omega
end Go.Proofs.YtjofmihdeblbmaaGreatDoor.Xa
namespace Go.Proofs.YtjofmihdeblbmaaGreatDoor.Xa
open Go Go.RowKit
set_option linter.unusedVariables false
set_option linter.unusedSimpArgs false
set_option maxRecDepth 100000
set_option maxHeartbeats 2000000
/-! ticks' numbers do not matter to heights and cycles -/
def normI (i : Ins) : Ins := if i.1 == 12 then (12, 1, i.2.2) else i
theorem norm_op (i : Ins) : (normI i).1 = i.1 := by
  unfold normI; split
  · rename_i h; exact (by simpa using h : i.1 = 12).symm
  · rfl
theorem norm_cases (i : Ins) : normI i = i ∨ (i.1 = 12 ∧ normI i = (12, 1, i.2.2)) := by
  unfold normI; split
  · rename_i h; exact .inr ⟨by simpa using h, rfl⟩
  · exact .inl rfl
theorem norm_pops (i : Ins) : popsP (normI i) = popsP i := by
  rcases norm_cases i with h | ⟨h1, h2⟩
  · rw [h]
  · obtain ⟨op, a, b⟩ := i
    simp only at h1
    subst h1
    rw [h2]; rfl
theorem norm_pushes (i : Ins) : pushesP (normI i) = pushesP i := by
  rcases norm_cases i with h | ⟨h1, h2⟩
  · rw [h]
  · obtain ⟨op, a, b⟩ := i
    simp only at h1
    subst h1
    rw [h2]; rfl
theorem norm_next (code : List Ins) (k : Nat) : nextP (code.map normI) k = nextP code k := by
  unfold nextP
  rw [List.getElem?_map]
  cases code[k]? with
  | none => rfl
  | some i =>
    rcases norm_cases i with h | ⟨h1, h2⟩
    · simp only [Option.map_some, h]
    · obtain ⟨op, a, b⟩ := i
      simp only at h1
      subst h1
      simp only [Option.map_some, h2]
      rfl
theorem norm_hStep (code : List Ins) (k : Nat) (i : Ins) : ∀ (ts : List Int) (h : List Int) (td : List Nat), hStep (code.map normI) k (normI i) h td ts = hStep code k i h td ts
  | [], h, td => by rw [hStep, hStep]
  | t :: ts, h, td => by
    rw [hStep, hStep]
    simp only [norm_pops, norm_pushes, List.length_map, norm_hStep code k i ts]
theorem norm_hLoop (code : List Ins) : ∀ (f : Nat) (h : List Int) (td : List Nat), hLoop (code.map normI) f h td = hLoop code f h td
  | 0, _, _ => by rw [hLoop, hLoop]
  | f + 1, h, td => by
    rw [hLoop, hLoop]
    cases td.getLast? with
    | none => rfl
    | some k =>
      simp only [List.getElem?_map, norm_next]
      cases code[k]? with
      | none => rfl
      | some i =>
        cases h[k]? with
        | none => rfl
        | some x => simp only [Option.map_some, norm_pops, norm_hStep, norm_hLoop code f]
theorem norm_heights (f : Nat) (code : List Ins) : heightsP f (code.map normI) = heightsP f code := by
  unfold heightsP
  simp only [List.length_map, norm_hLoop]
theorem norm_tickP (code : List Ins) : tickP (code.map normI) = tickP code := by
  unfold tickP
  rw [List.map_map]
  congr 1
  funext i
  simp [norm_op]
theorem norm_graphP (code : List Ins) : graphP (code.map normI) = graphP code := by
  unfold graphP
  rw [List.length_map]
  congr 1
  funext k
  exact norm_next code k
theorem norm_tickOk (code : List Ins) (h : List Int) (k : Nat) : tickOk (code.map normI) h k = tickOk code h k := by
  unfold tickOk
  simp only [norm_tickP, List.getElem?_map]
  cases code[k]? with
  | none => rfl
  | some x =>
    cases h[k]? with
    | none => rfl
    | some y =>
      simp only [Option.map_some]
      have hm : ∀ j : Nat, Option.map (fun x : Ins => x.1) (Option.map normI code[j]?) = Option.map (fun x : Ins => x.1) code[j]? := by
        intro j
        cases code[j]? with
        | none => rfl
        | some z => simp [norm_op]
      rcases norm_cases x with g | ⟨g1, g2⟩
      · rw [g, hm]
      · obtain ⟨op, a, b⟩ := x
        simp only at g1
        subst g1
        rw [g2]
        simp
theorem norm_ticked (f : Nat) (code : List Ins) (h : List Int) : tickedP f (code.map normI) h = tickedP f code h := by
  unfold tickedP
  simp only [norm_graphP, norm_tickP, List.length_map]
  have : tickOk (code.map normI) h = tickOk code h := by funext k; exact norm_tickOk code h k
  rw [this]
theorem norm_most : ∀ (code : List Ins) (h : List Int) (m : Int), mostP (code.map normI) h m = mostP code h m
  | [], h, m => by simp [mostP]
  | i :: l, [], m => by simp [mostP]
  | i :: l, n :: h, m => by
    simp only [List.map_cons, mostP, norm_pops, norm_pushes, norm_most l h]
def tickIn (i : Ins) : Bool := if i.1 == 12 then leB 1 i.2.1 && leB i.2.1 4095 else true
theorem norm_form (ps : List Int) (nk nc : Nat) (i : Ins) (hi : tickIn i = true) : formP ps nk nc (normI i) = formP ps nk nc i := by
  rcases norm_cases i with h | ⟨h1, h2⟩
  · rw [h]
  · obtain ⟨op, a, b⟩ := i
    simp only at h1
    subst h1
    rw [h2]
    unfold tickIn at hi
    simp at hi
    have h3 : leB 1 1 = true := rfl
    have h4 : leB 1 4095 = true := rfl
    simp [formP, hi.1, hi.2, h3, h4]
theorem norm_good (ps : List Int) (nk : Nat) (p l : Int) (code : List Ins) (hi : code.all tickIn = true) : goodP ps nk p l (code.map normI) = goodP ps nk p l code := by
  unfold goodP
  rw [List.length_map, List.all_map]
  congr 1
  rw [List.all_eq_true] at hi
  apply Bool.eq_iff_iff.2
  simp only [List.all_eq_true, Function.comp]
  constructor
  · intro h i him; rw [← norm_form _ _ _ _ (hi i him)]; exact h i him
  · intro h i him; rw [norm_form _ _ _ _ (hi i him)]; exact h i him
theorem norm_virt (f : Nat) (ps : List Int) (nk : Nat) (p l : Int) (code : List Ins) (hi : code.all tickIn = true) : virtP f ps nk p l (code.map normI) = virtP f ps nk p l code := by
  unfold virtP
  simp only [norm_good _ _ _ _ _ hi, norm_heights, norm_ticked, norm_most]
end Go.Proofs.YtjofmihdeblbmaaGreatDoor.Xa
namespace Go.Proofs.YtjofmihdeblbmaaGreatDoor.Xa
open Go Go.RowKit
set_option linter.unusedVariables false
set_option linter.unusedSimpArgs false
set_option maxRecDepth 100000
set_option maxHeartbeats 2000000
/-! texts in pieces: a word, what stands behind it, its token -/
def TokIs (w r : List UInt8) (t : TkT) : Prop := ∀ b : ByteArray, b.data.toList = w ++ r → b.size ≤ 4000 → tokF b = some (t.1, t.2.1, t.2.2, 0, (w.length : Int))
abbrev Pc := List UInt8 × List UInt8 × TkT
def flatP (ps : List Pc) : List UInt8 := ps.flatMap (fun p => p.1 ++ p.2.1)
theorem flatP_cons (p : Pc) (ps : List Pc) : flatP (p :: ps) = p.1 ++ (p.2.1 ++ flatP ps) := by simp [flatP]
theorem flatP_append (a b : List Pc) : flatP (a ++ b) = flatP a ++ flatP b := by simp [flatP]
def PcOk : List Pc → Prop
  | [] => True
  | p :: ps => p.1 ≠ [] ∧ TokIs p.1 (p.2.1 ++ flatP ps) p.2.2 ∧ skipB false (p.2.1 ++ flatP ps) = p.2.1.length ∧ PcOk ps
def tokP : Nat → List Pc → List Tok
  | _, [] => []
  | n, p :: ps => ⟨p.2.2.1, p.2.2.2.1, p.2.2.2.2, (n : Nat)⟩ :: tokP (n + p.1.length + p.2.1.length) ps
theorem tokP_len : ∀ (ps : List Pc) (n : Nat), (tokP n ps).length = ps.length
  | [], _ => rfl
  | p :: ps, n => by simp [tokP, tokP_len ps]
theorem tokL_pcs (s : ByteArray) (hs : s.size ≤ 4000) : ∀ (ps : List Pc) (pre : List UInt8) (f : Nat) (acc : List Tok), s.data.toList = pre ++ flatP ps → PcOk ps → ps.length < f →
    tokL s f pre.length acc = some (acc ++ tokP pre.length ps, 0, 0)
  | [], pre, f, acc, hd, hg, hf => by
    obtain ⟨g, rfl⟩ := Nat.exists_eq_add_of_le' (show 1 ≤ f by omega)
    have hz : s.size = pre.length := by rw [size_data, hd]; simp [flatP]
    rw [tokL, if_neg (by omega)]
    simp [tokP]
  | p :: ps, pre, f, acc, hd, hg, hf => by
    obtain ⟨g, rfl⟩ := Nat.exists_eq_add_of_le' (show 1 ≤ f by omega)
    obtain ⟨hw, ht, hk, hr⟩ := hg
    rw [flatP_cons] at hd
    have hp : 0 < p.1.length := List.length_pos_iff.2 hw
    have hz : s.size = pre.length + p.1.length + (p.2.1 ++ flatP ps).length := by rw [size_data, hd]; simp; omega
    have hde : (s.extract pre.length s.size).data.toList = p.1 ++ (p.2.1 ++ flatP ps) := by rw [extract_list, hd]; simp
    rw [tokL, if_pos (by omega), ht _ hde (by rw [size_data, hde]; simp at hz ⊢; omega)]
    simp only
    have h1 : ((p.1.length : Int) == 0) = false := by simp; intro h; exact hw h
    rw [h1]
    simp only [Bool.false_eq_true, if_false, Int.toNat_natCast]
    have h2 : leB 0 (p.1.length : Int) = true := by unfold leB; simp
    rw [h2, if_pos (by simp; omega)]
    have h3 : s.data.toList.drop (pre.length + p.1.length) = p.2.1 ++ flatP ps := by
      rw [hd, ← List.length_append, ← List.append_assoc, List.drop_left]
    rw [h3, hk]
    have ih := tokL_pcs s hs ps (pre ++ p.1 ++ p.2.1) g (acc ++ [⟨p.2.2.1, p.2.2.2.1, p.2.2.2.2, (pre.length : Nat)⟩]) (by rw [hd]; simp) hr (by simp at hf; omega)
    have hl : (pre ++ p.1 ++ p.2.1).length = pre.length + p.1.length + p.2.1.length := by simp; omega
    rw [hl] at ih
    rw [ih]
    simp [tokP]
theorem tokensR_pcs (s : ByteArray) (hs : s.size ≤ 4000) (ps : List Pc) (hd : s.data.toList = flatP ps) (hg : PcOk ps) (hk : skipB false (flatP ps) = 0) (hn : ps.length ≤ 4000) : tokensR s = some (tokP 0 ps, 0, 0) := by
  unfold tokensR
  rw [if_neg (by omega), hd, hk]
  have := tokL_pcs s hs ps [] 4001 [] (by simpa using hd) hg (by omega)
  simpa using this
theorem at_tokP (c : PC) : ∀ (ps : List Pc) (n : Nat) (pre : List Tok), c.toks = pre ++ tokP n ps → AtT c pre.length (ps.map (·.2.2))
  | [], _, _, _ => trivial
  | p :: ps, n, pre, h => by
    refine ⟨?_, ?_⟩
    · unfold tk
      rw [h, tokP, List.getElem?_append_right (Nat.le_refl _), Nat.sub_self]
      rfl
    · have := at_tokP c ps (n + p.1.length + p.2.1.length) (pre ++ [⟨p.2.2.1, p.2.2.2.1, p.2.2.2.2, (n : Nat)⟩]) (by rw [h, tokP]; simp)
      simpa using this
theorem TokIs.word {w r : List UInt8} (hg : goodW w = true) (hr : EndB r) : TokIs w r (tkW w) := fun b hb hs => tokF_word w r b hb hr hg hs
/-- a digit with = or ; behind it -/
theorem TokIs.dig {c x : UInt8} (hd : isDig (c.toNat : Int) = true) (r : List UInt8) (hx : x = 61 ∨ x = 59) : TokIs [c] (x :: r) (3, ⟨#[]⟩, (c.toNat : Int) - 48) := by
  intro b hb hs
  have h0 : b[0]? = some c := first_of (by rw [hb]; rfl)
  unfold tokF
  rw [h0]
  simp only
  have hlet : isLet (c.toNat : Int) = false := by
    cases h : isLet (c.toNat : Int)
    · rfl
    · rw [let_not_dig h] at hd; cases hd
  rw [if_neg (by rw [hlet]; decide), if_pos hd]
  have hsp : spanI isDig b.data.toList = 1 := by
    rw [hb]
    refine span_app isDig [c] (x :: r) (by simp [hd]) ?_
    rintro c' r' h
    cases h
    rcases hx with rfl | rfl <;> decide
  unfold lex_number.f
  rw [if_pos (by omega), hsp]
  have hb1 : byteAt b.data.toList 1 = 61 ∨ byteAt b.data.toList 1 = 59 := by
    rw [hb]
    rcases hx with rfl | rfl
    · left; rfl
    · right; rfl
  unfold lex_number.g
  have ht : b.data.toList.take 1 = [c] := by rw [hb]; rfl
  rw [ht]
  have hp : Lib.parseIntB 64 [c] = .ok ((c.toNat : Int) - 48) := by
    rcases dig_cases c hd with rfl | rfl | rfl | rfl | rfl | rfl | rfl | rfl | rfl | rfl <;> rfl
  rw [hp]
  simp only
  rcases hb1 with h | h <;> rw [h] <;> rfl
theorem TokIs.eqeq (r : List UInt8) : TokIs [61, 61] r t_eqeq := by
  intro b hb hs
  have h0 : b[0]? = some 61 := first_of (by rw [hb]; rfl)
  unfold tokF
  rw [h0]
  have hx : lex_op.f b = some (6, ⟨#[61, 61]⟩, 0, 0, 2) := by
    unfold lex_op.f
    rw [if_pos (by rw [size_data, hb]; simp)]
    unfold lex_op.g
    have hfn : lexOps.find? (fun x => Lib.hasPrefix b.data.toList x) = some [61, 61] := by
      rw [hb]
      simp [lexOps, Lib.hasPrefix, List.isPrefixOf, List.find?]
    rw [hfn]
  exact hx
/-! the text of GenBounds: statements 1==1; -/
def p_word (w : List UInt8) : Pc := (w, [32], tkW w)
def p_eq : List Pc := [([49], [], t_int 1), ([61, 61], [], t_eqeq), ([49], [], t_int 1), ([59], [32], t_semi)]
def p_head : List Pc := [k_fn, k_main, [40], [41], [123]].map p_word
def p_end : List Pc := [([125], [], t_rb)]
def p_bound (n : Nat) : List Pc := p_head ++ (reps p_eq n ++ p_end)
theorem skip0 {c : UInt8} (l : List UInt8) (h : isBlank (c.toNat : Int) = false) (h2 : (c.toNat : Int) ≠ 35) : skipB false (c :: l) = 0 := by rw [skipB, if_neg (by rw [h]; decide), if_neg h2]
theorem p_end_ok : PcOk p_end := by
  refine ⟨by decide, ?_, rfl, trivial⟩
  exact TokIs.word (w := [125]) (by decide +kernel) (.inl rfl)
theorem p_tail_skip (n : Nat) : skipB false (flatP (reps p_eq n ++ p_end)) = 0 := by
  cases n with
  | zero => decide +kernel
  | succ n =>
    rw [reps, List.append_assoc, flatP_append]
    exact skip0 _ (by decide) (by decide)
theorem p_reps_ok : ∀ n, PcOk (reps p_eq n ++ p_end)
  | 0 => p_end_ok
  | n + 1 => by
    have ih := p_reps_ok n
    have hk := p_tail_skip n
    show PcOk (([49], [], t_int 1) :: ([61, 61], [], t_eqeq) :: ([49], [], t_int 1) :: ([59], [32], t_semi) :: (reps p_eq n ++ p_end))
    refine ⟨by decide, ?_, ?_, by decide, ?_, ?_, by decide, ?_, ?_, by decide, ?_, ?_, ih⟩
    · rw [flatP_cons]; exact TokIs.dig (c := 49) (by decide) _ (.inl rfl)
    · rw [flatP_cons]; exact skip0 _ (by decide) (by decide)
    · exact TokIs.eqeq _
    · rw [flatP_cons]; exact skip0 _ (by decide) (by decide)
    · rw [flatP_cons]; exact TokIs.dig (c := 49) (by decide) _ (.inr rfl)
    · rw [flatP_cons]; exact skip0 _ (by decide) (by decide)
    · exact TokIs.word (w := [59]) (by decide +kernel) (.inr ⟨_, rfl⟩)
    · show skipB false (32 :: flatP (reps p_eq n ++ p_end)) = 1
      rw [skip_32, hk]
theorem p_words_ok : ∀ (ws : List (List UInt8)) (ps : List Pc), (∀ w ∈ ws, goodW w = true) → PcOk ps → skipB false (flatP ps) = 0 → PcOk (ws.map p_word ++ ps) ∧ skipB false (flatP (ws.map p_word ++ ps)) = 0
  | [], ps, hg, h, hk => ⟨h, hk⟩
  | w :: ws, ps, hg, h, hk => by
    obtain ⟨i1, i2⟩ := p_words_ok ws ps (fun v hv => hg v (List.mem_cons_of_mem _ hv)) h hk
    have hw := hg w List.mem_cons_self
    refine ⟨⟨?_, TokIs.word hw (.inr ⟨_, rfl⟩), ?_, i1⟩, ?_⟩
    · have := good_pos hw
      show w ≠ []
      intro h0; rw [h0] at this; cases this
    · show skipB false (32 :: flatP (ws.map p_word ++ ps)) = 1
      rw [skip_32, i2]
    · rw [List.map_cons, List.cons_append, flatP_cons]
      exact good_head hw _
theorem p_bound_ok (n : Nat) : PcOk (p_bound n) ∧ skipB false (flatP (p_bound n)) = 0 :=
  p_words_ok _ _ (by decide +kernel) (p_reps_ok n) (p_tail_skip n)
def boundL (n : Nat) : List (ByteArray × List Tm) := [(mainB, List.replicate n .eq)]
theorem bound_tks (n : Nat) : (p_bound n).map (·.2.2) = (boundL n).flatMap FT.tks := by
  have e1 : p_head.map (·.2.2) = [t_fn, (1, mainB, 0), t_lp, t_rp, t_lb] := by decide +kernel
  have e2 : ∀ n, (reps p_eq n).map (·.2.2) = (List.replicate n .eq).flatMap Tm.tks := by
    intro n
    induction n with
    | zero => rfl
    | succ n ih => rw [reps, List.map_append, ih, List.replicate_succ, List.flatMap_cons]; rfl
  unfold p_bound boundL
  rw [List.map_append, List.map_append, e1, e2]
  simp [FT.tks, p_end]
theorem bound_prog (b : ByteArray) (n : Nat) (hn : n ≤ 600) (hb : b.data.toList = flatP (p_bound n)) (hs : b.size ≤ 4000) : progT 1000000 b = some ((boundL n).map FT.fn, 0, 0) := by
  have hl : (p_bound n).length = 4 * n + 6 := by
    unfold p_bound
    simp [reps_len, p_eq, p_head, p_end]
    omega
  have ht := tokensR_pcs b hs (p_bound n) hb (p_bound_ok n).1 (p_bound_ok n).2 (by omega)
  refine progT_of 1000000 rfl b _ (boundL n) ht (fun m => ?_) ?_ ?_ ?_ (by simp [boundL])
  · rw [← bound_tks]
    exact at_tokP ⟨0, 0, tokP 0 (p_bound n), m⟩ (p_bound n) 0 [] rfl
  · rw [tokP_len, ← bound_tks, List.length_map]
  · rw [tokP_len]; omega
  · intro F hF
    simp only [boundL, List.mem_cons, List.not_mem_nil, or_false] at hF
    rcases hF with rfl
    simp; omega
end Go.Proofs.YtjofmihdeblbmaaGreatDoor.Xa
namespace Go.Proofs.YtjofmihdeblbmaaGreatDoor.Xa
open Go Go.RowKit
set_option linter.unusedVariables false
set_option linter.unusedSimpArgs false
set_option maxRecDepth 100000
set_option maxHeartbeats 2000000
/-! GenBounds: n statements 1==1; checked, and made code of -/
def eqNd : Nd := Tm.nd .eq
theorem chk_eq (ts : List FnN) (fns : Fns) (g : Nat) : nodeC ts fns (g + 8) cs0 eqNd = some cs0 := by rfl
theorem chk_eqs (ts : List FnN) (fns : Fns) : ∀ (n g : Nat), allC ts fns (g + n + 9) cs0 (List.replicate n eqNd) = some cs0
  | 0, g => by rw [List.replicate_zero, show g + 0 + 9 = (g + 8) + 1 by omega, allC]
  | n + 1, g => by
    have ih := chk_eqs ts fns n g
    rw [List.replicate_succ, show g + (n + 1) + 9 = (g + n + 9) + 1 by omega, allC, show g + n + 9 = (g + n + 1) + 8 by omega, chk_eq]
    exact ih
def boundF (n : Nat) : FnN := FT.fn (mainB, List.replicate n .eq)
theorem bound_chk (n : Nat) (hn : n ≤ 600) : checkR 1000000 [boundF n] = some ([⟨0, [], [], 0⟩], 0) := by
  have h1 : fnsL [boundF n] 0 [] = some [(mainB, 0)] := fnsL_one _
  have hf : funC [boundF n] [(mainB, 0)] 1000000 cs0 (boundF n) = some ⟨0, [], [], 0⟩ := by
    have hk : (List.replicate n Tm.eq).map Tm.nd = List.replicate n eqNd := by simp [eqNd]
    have ha := chk_eqs [boundF n] [(mainB, 0)] n (999999 - n - 9)
    rw [show 999999 - n - 9 + n + 9 = 999999 by omega] at ha
    unfold funC boundF FT.fn
    simp only [parC, funK, hk]
    have hb : nodeC [boundF n] [(mainB, 0)] 1000000 cs0 (.mk 10 0 ⟨#[]⟩ 0 (List.replicate n eqNd)) = some cs0 := by
      rw [show (1000000 : Nat) = 999999 + 1 from rfl, nodeC]
      have ho : okC cs0 = true := rfl
      have he : (cs0.e == 0) = true := rfl
      have hl : (List.replicate n eqNd).length ≤ 1000000 := by simp; omega
      simp [ho, he, Nd.kind, Nd.kids, hl, ha]
      omega
    unfold boundF FT.fn at hb
    simp only [hk] at hb
    rw [hb]
    rfl
  unfold checkR
  rw [h1]
  simp only
  rw [chkL, hf]
  simp only [beq_self_eq_true, if_true, chkL, List.nil_append]
  unfold checkEnd
  have h5 : fnIx [(mainB, 0)] mainB = some 0 := by decide +kernel
  rw [h5]
  simp [boundF, FT.fn]
def eq4 : List Ins := [(1, 0, 0), (1, 0, 0), (5, 6, 0), (4, 0, 0)]
theorem gen_eq (g : Nat) (t : Int) (b : Bool) (cs : List (Int × Int)) (code : List Ins) (calls : List Int) (hc : cs = [] ∨ cs = [(1, 1)]) (hl : code.length ≤ 90000) :
    gStmt (g + 10) ⟨t, b, cs, code, calls⟩ eqNd = some ⟨t, b, [(1, 1)], code ++ eq4, calls⟩ := by
  have h0 : code.length ≤ 99000 := by omega
  have h1 : code.length + 1 ≤ 99000 := by omega
  have h2 : code.length + 2 ≤ 99000 := by omega
  have h3 : code.length + 3 ≤ 99000 := by omega
  rcases hc with rfl | rfl <;>
    simp [gStmt, gAllT, gAll, gExpr, gConst, kIdx, gPut, gOk, eqNd, Tm.nd, n_int, Nd.kind, Nd.kids, Nd.num, Nd.op, h0, h1, h2, h3, eq4]
theorem reps_comm {α : Type} (l : List α) : ∀ n, reps l n ++ l = l ++ reps l n
  | 0 => by simp [reps]
  | n + 1 => by rw [reps, List.append_assoc, reps_comm l n]
def csN : Nat → List (Int × Int)
  | 0 => []
  | _ + 1 => [(1, 1)]
theorem gen_eqs (t : Int) (b : Bool) (calls : List Int) : ∀ (n k g : Nat), k + n ≤ 600 → gBlk (g + n + 11) ⟨t, b, csN k, reps eq4 k, calls⟩ (List.replicate n eqNd) = some ⟨t, b, csN (k + n), reps eq4 (k + n), calls⟩
  | 0, k, g, h => by rw [List.replicate_zero, show g + 0 + 11 = (g + 10) + 1 by omega, gBlk]; rfl
  | n + 1, k, g, h => by
    have ih := gen_eqs t b calls n (k + 1) g (by omega)
    rw [List.replicate_succ, show g + (n + 1) + 11 = (g + n + 11) + 1 by omega, gBlk]
    rw [show g + n + 11 = (g + n + 1) + 10 by omega, gen_eq _ _ _ _ _ _ (by cases k <;> simp [csN]) (by rw [reps_len]; simp [eq4]; omega)]
    simp only
    rw [reps_comm]
    have : k + (n + 1) = k + 1 + n := by omega
    rw [this]
    exact ih
def boundC (n : Nat) : List Ins := reps eq4 n ++ [((1 : Int), (((csN n).length : Nat) : Int), (0 : Int)), (10, 0, 0)]
theorem bound_gen (n : Nat) (hn : n ≤ 600) : gFn 1000000 0 (boundF n) ⟨0, [], [], 0⟩ = some ⟨0, false, csN n ++ [(0, 0)], boundC n, []⟩ := by
  have hk : (List.replicate n Tm.eq).map Tm.nd = List.replicate n eqNd := by simp [eqNd]
  have hb := gen_eqs 0 false [] n 0 (999999 - n - 11) (by omega)
  rw [show 999999 - n - 11 + n + 11 = 999999 by omega, Nat.zero_add] at hb
  have hs : gStmt 1000000 ⟨0, false, [], [], []⟩ (.mk 10 0 ⟨#[]⟩ 0 (List.replicate n eqNd)) = some ⟨0, false, csN n, reps eq4 n, []⟩ := by
    rw [show (1000000 : Nat) = 999999 + 1 from rfl, gStmt]
    have hl : n ≤ 999999 + 1 := by omega
    have e1 : csN 0 = [] := rfl
    have e2 : reps eq4 0 = [] := rfl
    rw [e1, e2] at hb
    simp [gOk, Nd.kind, Nd.kids, hl, hb]
  unfold gFn boundF FT.fn
  simp only [hk]
  rw [hs]
  have hl : (reps eq4 n).length = n * 4 := by rw [reps_len]; rfl
  have hc : (csN n).length ≤ 1 := by cases n <;> simp [csN]
  have hki : kIdx (csN n) 0 0 = none := by cases n <;> simp [csN, kIdx]
  have ho : gOk ⟨0, false, csN n, reps eq4 n, []⟩ = true := by
    unfold gOk
    simp [hl]
    omega
  simp only [ho, if_true, gConst, hki, gPut, boundC]
  simp
end Go.Proofs.YtjofmihdeblbmaaGreatDoor.Xa
namespace Go.Proofs.YtjofmihdeblbmaaGreatDoor.Xa
open Go Go.RowKit
set_option linter.unusedVariables false
set_option linter.unusedSimpArgs false
set_option maxRecDepth 100000
set_option maxHeartbeats 2000000
/-! code without jumps: heights, and no cycle -/
def nxH (x : Int) (i : Ins) : Int := IntKind.i64.wrap (IntKind.i64.wrap (x - popsP i) + pushesP i)
def hsOf : Int → List Ins → List Int
  | _, [] => []
  | x, i :: l => x :: hsOf (nxH x i) l
def okS : Int → List Ins → Bool
  | _, [] => false
  | x, [i] => i.1 == 10 && !ltB x (popsP i) && leB 0 x && !ltB 64 x && !ltB 64 (nxH x i)
  | x, i :: j :: l => !(i.1 == 7 || i.1 == 8 || i.1 == 10 || i.1 == 9 || i.1 == 12) && !ltB x (popsP i) && leB 0 x && !ltB 64 x && !ltB 64 (nxH x i) && okS (nxH x i) (j :: l)
theorem hsOf_len : ∀ (l : List Ins) (x : Int), (hsOf x l).length = l.length
  | [], _ => rfl
  | i :: l, x => by simp [hsOf, hsOf_len l]
structure OkI (x : Int) (i : Ins) (last : Bool) : Prop where
  pops : ltB x (popsP i) = false
  lo : leB 0 x = true
  hi : ltB 64 x = false
  hi2 : ltB 64 (nxH x i) = false
  op : last = false → i.1 ≠ 7 ∧ i.1 ≠ 8 ∧ i.1 ≠ 10 ∧ i.1 ≠ 9 ∧ i.1 ≠ 12
  ret : last = true → i.1 = 10
theorem okS_cons {x : Int} {i : Ins} {l : List Ins} (h : okS x (i :: l) = true) : OkI x i l.isEmpty ∧ (l ≠ [] → okS (nxH x i) l = true) := by
  cases l with
  | nil =>
    simp only [okS, Bool.and_eq_true, Bool.not_eq_true', beq_iff_eq] at h
    obtain ⟨⟨⟨⟨h1, h2⟩, h3⟩, h4⟩, h5⟩ := h
    exact ⟨⟨h2, h3, h4, h5, (fun h => by cases h), fun _ => h1⟩, fun h => absurd rfl h⟩
  | cons j l =>
    simp only [okS, Bool.and_eq_true, Bool.not_eq_true', Bool.or_eq_false_iff, beq_eq_false_iff_ne] at h
    obtain ⟨⟨⟨⟨⟨⟨⟨⟨⟨a1, a2⟩, a3⟩, a4⟩, a5⟩, h2⟩, h3⟩, h4⟩, h5⟩, h6⟩ := h
    exact ⟨⟨h2, h3, h4, h5, fun _ => ⟨a1, a2, a3, a4, a5⟩, (fun h => by cases h)⟩, fun _ => h6⟩
theorem okS_at : ∀ (pre : List Ins) (x : Int) (i : Ins) (l : List Ins), okS x (pre ++ i :: l) = true → ∃ y, OkI y i l.isEmpty ∧ okS y (i :: l) = true
  | [], x, i, l, h => ⟨x, (okS_cons h).1, h⟩
  | p :: pre, x, i, l, h => okS_at pre _ i l ((okS_cons h).2 (by simp))
theorem next_at {code pre l : List Ins} {i : Ins} (hc : code = pre ++ i :: l) {x : Int} (h : OkI x i l.isEmpty) : nextP code pre.length = (if l.isEmpty then [] else [((pre.length + 1 : Nat) : Int)]) := by
  unfold nextP
  have : code[pre.length]? = some i := by rw [hc, List.getElem?_append_right (Nat.le_refl _), Nat.sub_self]; rfl
  rw [this]
  simp only
  cases hl : l.isEmpty
  · obtain ⟨a1, a2, a3, a4, a5⟩ := h.op hl
    simp [a1, a2, a3]
  · have := h.ret hl
    simp [this]
theorem hLoop_str (code : List Ins) : ∀ (l pre : List Ins) (i : Ins) (x : Int) (hp : List Int) (f : Nat), code = pre ++ i :: l → hp.length = pre.length → okS x (i :: l) = true → l.length + 2 ≤ f →
    hLoop code f (hp ++ x :: List.replicate l.length (-1)) [pre.length] = some (hp ++ hsOf x (i :: l))
  | [], pre, i, x, hp, f, hc, hl, hk, hf => by
    obtain ⟨g, rfl⟩ := Nat.exists_eq_add_of_le' (show 2 ≤ f by simpa using hf)
    obtain ⟨ok, _⟩ := okS_cons hk
    have hn := next_at hc ok
    have hci : code[pre.length]? = some i := by rw [hc, List.getElem?_append_right (Nat.le_refl _), Nat.sub_self]; rfl
    have hhx : (hp ++ [x])[pre.length]? = some x := by rw [← hl, List.getElem?_append_right (Nat.le_refl _), Nat.sub_self]; rfl
    rw [hLoop]
    simp only [List.getLast?_singleton, List.length_nil, List.replicate_zero, hci, hhx, ok.pops, Bool.false_eq_true, if_false, hn, List.isEmpty_nil, if_true, hStep, List.dropLast_singleton]
    rw [if_pos (by simp), hLoop]
    rfl
  | j :: l, pre, i, x, hp, f, hc, hl, hk, hf => by
    obtain ⟨g, rfl⟩ := Nat.exists_eq_add_of_le' (show 1 ≤ f by omega)
    obtain ⟨ok, hk2⟩ := okS_cons hk
    have hk3 := hk2 (by simp)
    have ok2 := (okS_cons hk3).1
    have hn := next_at hc ok
    have hci : code[pre.length]? = some i := by rw [hc, List.getElem?_append_right (Nat.le_refl _), Nat.sub_self]; rfl
    have hlen : code.length = pre.length + l.length + 2 := by rw [hc]; simp; omega
    have hhx : (hp ++ x :: List.replicate (l.length + 1) (-1))[pre.length]? = some x := by rw [← hl, List.getElem?_append_right (Nat.le_refl _), Nat.sub_self]; rfl
    have hhy : (hp ++ x :: List.replicate (l.length + 1) (-1))[pre.length + 1]? = some (-1) := by
      rw [← hl, List.getElem?_append_right (by omega), show hp.length + 1 - hp.length = 1 by omega, List.getElem?_cons_succ, List.getElem?_replicate, if_pos (by omega)]
    have e1 : leB (code.length : Nat) ((pre.length + 1 : Nat) : Int) = false := by unfold leB; simp; omega
    have e2 : ltB ((pre.length + 1 : Nat) : Int) 0 = false := by unfold ltB; simp; omega
    have e3 : ltB 64 (IntKind.i64.wrap (IntKind.i64.wrap (x - popsP i) + pushesP i)) = false := ok.hi2
    have e4 : leB 0 (-1) = false := rfl
    have e5 : ltB (-1) 0 = true := rfl
    have ih := hLoop_str code l (pre ++ [i]) j (nxH x i) (hp ++ [x]) g (by rw [hc]; simp) (by simp [hl]) hk3 (by simp at hf; omega)
    rw [hLoop]
    have hset : (hp ++ x :: List.replicate (l.length + 1) (-1)).set (pre.length + 1) (IntKind.i64.wrap (IntKind.i64.wrap (x - popsP i) + pushesP i)) = hp ++ [x] ++ nxH x i :: List.replicate l.length (-1) := by
      rw [← hl, List.set_append_right _ _ (by omega), show hp.length + 1 - hp.length = 1 by omega, List.replicate_succ]
      simp [nxH]
    simp only [List.getLast?_singleton, List.length_cons, hci, hhx, ok.pops, Bool.false_eq_true, if_false, hn, List.isEmpty_cons, hStep, List.dropLast_singleton, Int.toNat_natCast, hhy, e1, e2, e3, e4, e5, Bool.or_false, Bool.false_and, if_true, hset, List.nil_append]
    rw [if_pos (by simp)]
    simp only [List.length_append, List.length_singleton] at ih
    rw [ih]
    simp [hsOf]
theorem heights_str {code : List Ins} (h : okS 0 code = true) (f : Nat) (hf : code.length + 1 ≤ f) : heightsP f code = some (hsOf 0 code) := by
  cases code with
  | nil => cases h
  | cons i l =>
    unfold heightsP
    rw [if_neg (by simp)]
    have := hLoop_str (i :: l) l [] i 0 [] f rfl rfl h (by simpa using hf)
    rw [List.length_cons, List.replicate_succ, List.set_cons_zero]
    simpa using this
def strG (L : Nat) : List (List Int) := (List.range L).map fun k => if k + 1 < L then [((k + 1 : Nat) : Int)] else []
theorem graph_str {code : List Ins} (h : okS 0 code = true) : graphP code = strG code.length := by
  unfold graphP strG
  apply List.map_congr_left
  intro k hk
  have hk := List.mem_range.1 hk
  have hs : code = code.take k ++ code[k] :: code.drop (k + 1) := by rw [List.getElem_cons_drop, List.take_append_drop]
  obtain ⟨y, ok, _⟩ := okS_at (code.take k) 0 code[k] (code.drop (k + 1)) (by rw [← hs]; exact h)
  have := next_at hs ok
  have hl : (code.take k).length = k := by simp; omega
  rw [hl] at this
  rw [this]
  by_cases hz : k + 1 < code.length
  · rw [if_pos hz, if_neg]
    simp
    omega
  · rw [if_neg hz, if_pos]
    simp
    omega
theorem strG_len (L : Nat) : (strG L).length = L := by simp [strG]
theorem strG_at {L k : Nat} (h : k < L) : (strG L)[k]? = some (if k + 1 < L then [((k + 1 : Nat) : Int)] else []) := by
  unfold strG
  rw [List.getElem?_map, List.getElem?_range h]
  rfl
theorem strG_clean (L : Nat) : (strG L).map (clRow L []) = strG L := by
  unfold strG
  rw [List.map_map]
  apply List.map_congr_left
  intro k hk
  simp only [Function.comp]
  split
  · rename_i hl
    have e1 : leB 0 ((k + 1 : Nat) : Int) = true := by unfold leB; simp; omega
    have e2 : ltB ((k + 1 : Nat) : Int) (L : Nat) = true := by unfold ltB; simp; omega
    rw [clRow, e1, e2]
    rfl
  · rfl
theorem rLoop_str (L : Nat) : ∀ (d k f : Nat), k + d + 1 = L → d + 2 ≤ f → rLoop (strG L) f (List.replicate (k + 1) true ++ List.replicate d false) [k] = some (List.replicate L true)
  | 0, k, f, hk, hf => by
    obtain ⟨g, rfl⟩ := Nat.exists_eq_add_of_le' (show 2 ≤ f by omega)
    rw [rLoop]
    simp only [List.getLast?_singleton, strG_at (show k < L by omega)]
    rw [if_neg (by omega)]
    simp only [rStep, List.dropLast_singleton]
    rw [if_pos (by simp), rLoop]
    simp
    omega
  | d + 1, k, f, hk, hf => by
    obtain ⟨g, rfl⟩ := Nat.exists_eq_add_of_le' (show 1 ≤ f by omega)
    have ih := rLoop_str L d (k + 1) g (by omega) (by omega)
    rw [rLoop]
    simp only [List.getLast?_singleton, strG_at (show k < L by omega)]
    rw [if_pos (by omega)]
    have e2 : ltB ((k + 1 : Nat) : Int) 0 = false := by unfold ltB; simp; omega
    have e3 : (List.replicate (k + 1) true ++ List.replicate (d + 1) false)[k + 1]? = some false := by
      rw [List.getElem?_append_right (by simp)]; simp
    have e4 : (((k + 1 : Nat) : Int) == -1) = false := by simp; omega
    have e5 : (List.replicate (k + 1) true ++ List.replicate (d + 1) false).set (k + 1) true = List.replicate (k + 1 + 1) true ++ List.replicate d false := by
      rw [List.set_append_right _ _ (by simp), List.length_replicate, Nat.sub_self, List.replicate_succ (n := d), List.set_cons_zero, List.replicate_succ' (n := k + 1)]
      simp
    simp only [rStep, e2, Bool.false_eq_true, if_false, Int.toNat_natCast, e3, e4, e5, List.dropLast_singleton, List.nil_append]
    rw [if_pos (by simp)]
    exact ih
theorem reach_str (L f : Nat) (hL : 0 < L) (hf : L + 1 ≤ f) : reachP f (strG L) = some (List.replicate L true) := by
  unfold reachP
  rw [strG_len, if_neg (by omega)]
  obtain ⟨d, rfl⟩ : ∃ d, L = d + 1 := ⟨L - 1, by omega⟩
  have := rLoop_str (d + 1) d 0 f (by omega) (by omega)
  rw [List.replicate_succ, List.set_cons_zero]
  simpa using this
theorem on_str {L k : Nat} (h : k < L) : onP (List.replicate L true) (List.replicate L false) k = true := by
  unfold onP
  rw [List.getElem?_replicate, List.getElem?_replicate, if_pos h, if_pos h]
  rfl
theorem strG_drop {L i : Nat} (h : i < L) : (strG L).drop i = (if i + 1 < L then [((i + 1 : Nat) : Int)] else []) :: (strG L).drop (i + 1) := by
  rw [List.drop_eq_getElem_cons (by rw [strG_len]; exact h)]
  congr 1
  have := strG_at h
  rw [List.getElem?_eq_getElem (by rw [strG_len]; exact h)] at this
  exact Option.some.inj this
theorem inAll_str (L : Nat) : ∀ (d i : Nat) , i + d + 1 = L → inAll (List.replicate L true) (List.replicate L false) i (0 :: (List.replicate i 1 ++ List.replicate d 0)) i ((strG L).drop i) = (0 :: List.replicate (L - 1) 1, L)
  | 0, i, hi => by
    rw [strG_drop (by omega), if_neg (by omega), List.drop_of_length_le (by rw [strG_len]; omega)]
    simp only [inAll, on_str (show i < L by omega), if_true, inRow]
    simp
    omega
  | d + 1, i, hi => by
    have ih := inAll_str L d (i + 1) (by omega)
    rw [strG_drop (by omega), if_pos (by omega)]
    have e1 : ((0 : Int) :: (List.replicate i 1 ++ List.replicate (d + 1) 0))[i + 1]? = some 0 := by
      rw [List.getElem?_cons_succ, List.getElem?_append_right (by simp)]; simp
    have e2 : ((0 : Int) :: (List.replicate i 1 ++ List.replicate (d + 1) 0)).set (i + 1) 1 = 0 :: (List.replicate (i + 1) 1 ++ List.replicate d 0) := by
      rw [List.set_cons_succ, List.set_append_right _ _ (by simp), List.length_replicate, Nat.sub_self, List.replicate_succ (n := d), List.set_cons_zero, List.replicate_succ' (n := i)]
      simp
    simp only [inAll, on_str (show i < L by omega), if_true, inRow, Int.toNat_natCast, on_str (show i + 1 < L by omega), e1, Option.getD_some]
    rw [show wr (0 + 1) = 1 by decide, e2]
    exact ih
theorem todo_str (L : Nat) (hL : 0 < L) : todo0 (List.replicate L true) (List.replicate L false) (0 :: List.replicate (L - 1) 1) L = [0] := by
  obtain ⟨d, rfl⟩ : ∃ d, L = d + 1 := ⟨L - 1, by omega⟩
  unfold todo0
  rw [List.range_succ_eq_map]
  have h0 := on_str (show 0 < d + 1 by omega)
  rw [List.filter_cons]
  simp only [h0, List.getElem?_cons_zero, Option.getD_some, beq_self_eq_true, Bool.and_self, if_true]
  congr 1
  rw [List.filter_eq_nil_iff]
  intro k hk
  obtain ⟨j, hj, rfl⟩ := List.mem_map.1 hk
  have hj := List.mem_range.1 hj
  simp only [Nat.succ_eq_add_one, List.getElem?_cons_succ, List.getElem?_replicate]
  rw [if_pos (by omega)]
  simp
theorem kahn_str (L : Nat) (hL : L ≤ 90000) : ∀ (d k f : Nat), k + d + 1 = L → d + 2 ≤ f → kahn (List.replicate L true) (List.replicate L false) (strG L) f ((d + 1 : Nat) : Int) (List.replicate (k + 1) 0 ++ List.replicate d 1) [k] = some 0
  | 0, k, f, hk, hf => by
    obtain ⟨g, rfl⟩ := Nat.exists_eq_add_of_le' (show 2 ≤ f by omega)
    rw [kahn]
    simp only [List.getLast?_singleton, strG_at (show k < L by omega)]
    rw [if_neg (show ¬ k + 1 < L by omega)]
    simp only [outRow, List.dropLast_singleton]
    rw [if_pos (by simp), kahn]
    rfl
  | d + 1, k, f, hk, hf => by
    obtain ⟨g, rfl⟩ := Nat.exists_eq_add_of_le' (show 1 ≤ f by omega)
    have ih := kahn_str L hL d (k + 1) g (by omega) (by omega)
    rw [kahn]
    simp only [List.getLast?_singleton, strG_at (show k < L by omega)]
    rw [if_pos (show k + 1 < L by omega)]
    have e1 : (List.replicate (k + 1) (0 : Int) ++ List.replicate (d + 1) 1)[k + 1]? = some 1 := by
      rw [List.getElem?_append_right (by simp)]; simp
    have e2 : (List.replicate (k + 1) (0 : Int) ++ List.replicate (d + 1) 1).set (k + 1) 0 = List.replicate (k + 1 + 1) 0 ++ List.replicate d 1 := by
      rw [List.set_append_right _ _ (by simp), List.length_replicate, Nat.sub_self, List.replicate_succ (n := d), List.set_cons_zero, List.replicate_succ' (n := k + 1)]
      simp
    simp only [outRow, Int.toNat_natCast, on_str (show k + 1 < L by omega), if_true, e1, Option.getD_some, List.dropLast_singleton, List.nil_append]
    rw [show wr (1 - 1) = 0 by decide]
    simp only [beq_self_eq_true, if_true, e2]
    rw [if_pos (by simp), show wr (((d + 1 + 1 : Nat) : Int) - 1) = ((d + 1 : Nat) : Int) by rw [wr_id (by omega) (by omega)]; omega]
    exact ih
theorem cyclic_str (L f : Nat) (hL : 0 < L) (hL2 : L ≤ 90000) (hf : L + 1 ≤ f) : cyclicP f (strG L) (List.replicate L false) = some false := by
  unfold cyclicP
  simp only [strG_len, strG_clean]
  rw [reach_str L f hL hf]
  obtain ⟨d, rfl⟩ : ∃ d, L = d + 1 := ⟨L - 1, by omega⟩
  have h1 := inAll_str (d + 1) d 0 (by omega)
  simp only [List.replicate_zero, List.nil_append, List.drop_zero] at h1
  simp only [List.replicate_succ (n := d) (a := (0 : Int)), h1]
  have h2 := todo_str (d + 1) hL
  simp only [Nat.add_sub_cancel] at h2 ⊢
  rw [h2]
  have h3 := kahn_str (d + 1) hL2 d 0 f (by omega) (by omega)
  simp only [List.replicate_succ, List.replicate_zero, List.cons_append, List.nil_append] at h3 ⊢
  rw [h3]
  rfl
theorem tick_str : ∀ {code : List Ins} {x : Int}, okS x code = true → tickP code = List.replicate code.length false
  | [], _, h => rfl
  | i :: l, x, h => by
    obtain ⟨ok, hk⟩ := okS_cons h
    have hi : (i.1 == 12) = false := by
      cases hl : l.isEmpty
      · simpa using (ok.op hl).2.2.2.2
      · rw [ok.ret hl]; rfl
    have : tickP l = List.replicate l.length false := by
      cases l with
      | nil => rfl
      | cons j l => exact tick_str (hk (by simp))
    show (i.1 == 12) :: tickP l = _
    rw [hi, this, List.length_cons, List.replicate_succ]
theorem most_str : ∀ (code : List Ins) (x m : Int), (code = [] ∨ okS x code = true) → m ≤ 64 → mostP code (hsOf x code) m ≤ 64
  | [], x, m, h, hm => by simpa [mostP] using hm
  | i :: l, x, m, h, hm => by
    have h := h.resolve_left (by simp)
    obtain ⟨ok, hk⟩ := okS_cons h
    rw [hsOf, mostP]
    refine most_str l (nxH x i) _ ?_ ?_
    · cases l with
      | nil => exact .inl rfl
      | cons j l => exact .inr (hk (by simp))
    · have h1 := ok.hi
      have h2 := ok.hi2
      simp only [ltB, decide_eq_false_iff_not, Int.not_lt] at h1 h2
      unfold nxH at h2
      split
      · unfold maxI wr
        repeat' split
        all_goals omega
      · exact hm
theorem virt_str (f : Nat) (ps : List Int) (nk : Nat) (code : List Ins) (h : okS 0 code = true) (hf : code.length + 1 ≤ f) (hl : code.length ≤ 90000) (hg : goodP ps nk 0 0 code = true) (hm : ∀ m, m ≤ 64 → -1000 ≤ m → True) :
    (virtP f ps nk 0 0 code).isSome = true ∨ mostP code (hsOf 0 code) 0 < -1000000 := by
  have hpos : 0 < code.length := by
    cases code with
    | nil => cases h
    | cons i l => simp
  have hmo := most_str code 0 0 (.inr h) (by omega)
  by_cases hlow : mostP code (hsOf 0 code) 0 < -1000000
  · exact .inr hlow
  left
  unfold virtP
  rw [if_pos hg, heights_str h f hf]
  simp only
  have ht : tickedP f code (hsOf 0 code) = some true := by
    unfold tickedP
    rw [graph_str h, tick_str h, cyclic_str code.length f hpos hl hf]
    simp only
    congr 1
    rw [List.all_eq_true]
    intro k hk
    have hk := List.mem_range.1 hk
    have hs : code = code.take k ++ code[k] :: code.drop (k + 1) := by rw [List.getElem_cons_drop, List.take_append_drop]
    obtain ⟨y, ok, _⟩ := okS_at (code.take k) 0 code[k] (code.drop (k + 1)) (by rw [← hs]; exact h)
    unfold tickOk
    rw [List.getElem?_eq_getElem hk, List.getElem?_eq_getElem (show k < (hsOf 0 code).length by rw [hsOf_len]; exact hk)]
    simp only
    have a : code[k].1 ≠ 9 ∧ code[k].1 ≠ 7 ∧ code[k].1 ≠ 8 := by
      cases hl : (code.drop (k + 1)).isEmpty
      · have := ok.op hl
        exact ⟨this.2.2.2.1, this.1, this.2.1⟩
      · have := ok.ret hl
        omega
    simp [a.1, a.2.1, a.2.2]
  rw [ht]
  simp only
  rw [if_neg]
  · rfl
  · rw [show (0 : Int) + mostP code (hsOf 0 code) 0 = mostP code (hsOf 0 code) 0 by omega, wr_id (by omega) (by omega)]
    unfold ltB
    simp
    omega
theorem most_lo : ∀ (code : List Ins) (hs : List Int) (m : Int), m ≤ mostP code hs m
  | [], hs, m => by simp [mostP]
  | i :: l, [], m => by simp [mostP]
  | i :: l, n :: hs, m => by
    rw [mostP]
    refine Int.le_trans ?_ (most_lo l hs _)
    split
    · unfold maxI
      split
      · split at * <;> omega
      · split <;> omega
    · exact Int.le_refl _
/-! GenBounds: the code fits -/
theorem ok_bound : ∀ n, okS 0 (boundC n) = true := by
  have h : ∀ n (k : Int), okS 0 (reps eq4 n ++ [((1 : Int), k, (0 : Int)), (10, 0, 0)]) = true := by
    intro n k
    induction n with
    | zero => rfl
    | succ n ih =>
      rw [reps, List.append_assoc]
      cases n with
      | zero => rfl
      | succ n => exact ih
  intro n
  exact h n _
theorem bound_len (n : Nat) : (boundC n).length = 4 * n + 2 := by
  unfold boundC
  simp [reps_len, eq4]
  omega
theorem bound_virt (n : Nat) (hn : 4 * n + 2 ≤ 1000) : (virtP 1000000 [0] (csN n ++ [(0, 0)]).length 0 0 (boundC n)).isSome = true := by
  have hl := bound_len n
  have hg : goodP [0] (csN n ++ [((0 : Int), (0 : Int))]).length 0 0 (boundC n) = true := by
    unfold goodP
    have e1 : ltB 1000 ((boundC n).length : Nat) = false := by unfold ltB; simp; omega
    have e2 : (((boundC n).length : Int) == 0) = false := by rw [hl]; simp; omega
    have e3 : (boundC n).all (formP [0] (csN n ++ [((0 : Int), (0 : Int))]).length (boundC n).length) = true := by
      rw [List.all_eq_true]
      intro i hi
      unfold boundC at hi
      have hpos : 0 < (csN n ++ [((0 : Int), (0 : Int))]).length := by simp
      rcases List.mem_append.1 hi with hi | hi
      · have := reps_mem _ _ hi
        simp only [eq4, List.mem_cons, List.not_mem_nil, or_false] at this
        rcases this with rfl | rfl | rfl | rfl
        · simp [formP, withinP, leB, ltB]
        · simp [formP, withinP, leB, ltB]
        · rfl
        · rfl
      · simp only [List.mem_cons, List.not_mem_nil, or_false] at hi
        rcases hi with rfl | rfl
        · simp [formP, withinP, leB, ltB]
          omega
        · rfl
    rw [e1, e2, e3]
    rfl
  rcases virt_str 1000000 [0] (csN n ++ [(0, 0)]).length (boundC n) (ok_bound n) (by omega) (by omega) hg (fun _ _ _ => trivial) with h | h
  · exact h
  · have := most_lo (boundC n) (hsOf 0 (boundC n)) 0
    omega
end Go.Proofs.YtjofmihdeblbmaaGreatDoor.Xa
namespace Go.Proofs.YtjofmihdeblbmaaGreatDoor.Xa
open Go Go.RowKit
set_option linter.unusedVariables false
set_option linter.unusedSimpArgs false
set_option maxRecDepth 100000
set_option maxHeartbeats 2000000
/-! GenTicks, all of its programs -/
def tickB (t : List Tm) : Nd := .mk 10 0 ⟨#[]⟩ 0 (t.map Tm.nd)
def tickF (o : Nat) : FnN := ⟨⟨#[102]⟩, [], tickB (List.replicate o .wf)⟩
def tickM (l c : Nat) : FnN := ⟨mainB, [], tickB (List.replicate l .wl ++ List.replicate c .cf)⟩
def FU : Nat := 1000000
def ticksOf : List Ins → Int → Option Int
  | [], n => some n
  | i :: l, n => if i.1 == 12 then (if i.2.1 == n + 1 then ticksOf l (n + 1) else none) else ticksOf l n
def eqI : List Ins → List Ins → Bool
  | [], [] => true
  | i :: l, j :: r => i.1 == j.1 && i.2.1 == j.2.1 && i.2.2 == j.2.2 && eqI l r
  | _, _ => false
theorem eqI_eq : ∀ {l r : List Ins}, eqI l r = true → l = r
  | [], [], _ => rfl
  | [], _ :: _, h => by cases h
  | _ :: _, [], h => by cases h
  | i :: l, j :: r, h => by
    simp only [eqI, Bool.and_eq_true, beq_iff_eq] at h
    obtain ⟨⟨⟨h1, h2⟩, h3⟩, h4⟩ := h
    obtain ⟨a, b, c⟩ := i
    obtain ⟨a', b', c'⟩ := j
    simp only at h1 h2 h3
    subst h1 h2 h3
    rw [eqI_eq h4]
def cOf (o : Option GS) : List Ins × Nat := match o with
  | some s => (s.code.map normI, s.consts.length)
  | none => ([], 0)
def cF (o : Nat) : List Ins × Nat := cOf (gFn FU 0 (tickF o) ⟨0, [], List.replicate o 0, 0⟩)
def cM (l c : Nat) : List Ins × Nat := cOf (gFn FU 0 (tickM l c) ⟨0, [], List.replicate l 1017 ++ List.replicate c 0, 0⟩)
def sOk (s : GS) : Bool := !s.big && !ltB 1000 (s.code.length : Nat) && !ltB 4095 s.ticks && s.code.all tickIn
def isC (s : GS) (c : List Ins × Nat) : Bool := eqI (s.code.map normI) c.1 && s.consts.length == c.2
def gtB (o l c : Nat) : Bool := match checkR FU [tickF o, tickM l c] with
  | some (rs, e) => e == 0 && match rs with
    | [r0, r1] => r0.locals == 0 && r1.locals == 0 && match gFn FU 0 (tickF o) r0 with
      | some s0 => match gFn FU s0.ticks (tickM l c) r1 with
        | some s1 => sOk s0 && sOk s1 && isC s0 (cF o) && isC s1 (cM l c) && (match ticksOf (s0.code ++ s1.code) 0 with | some n => n == ((2 * o + l + c : Nat) : Int) | none => false)
        | none => false
      | none => false
    | _ => false
  | none => false
def vOk (c : List Ins × Nat) : Bool := (virtP FU [0, 0] c.2 0 0 c.1).isSome
end Go.Proofs.YtjofmihdeblbmaaGreatDoor.Xa
namespace Go.Proofs.YtjofmihdeblbmaaGreatDoor.Xa
open Go Go.RowKit
set_option linter.unusedVariables false
set_option linter.unusedSimpArgs false
set_option maxRecDepth 100000
set_option maxHeartbeats 2000000
/-! GenBounds: sums that stand within one another -/
def w_one : List (List UInt8) := [[49], [43], [40]]
def nestW (d : Nat) : List (List UInt8) := [k_fn, k_main, [40], [41], [123], k_print] ++ (reps w_one d ++ ([49] :: (reps [[41]] d ++ [[59]])))
def nestSz (d : Nat) : Nat := (flatW (nestW d)).length + 1
def nestS (d : Nat) : Option SrcR := match pProgL FU FU ⟨0, 0, toksAt 0 (nestW d ++ [[125]]), nestSz d⟩ ⟨0, 0, 0, 0⟩ false [] with
  | none => none
  | some r => if (progR r).1.length ≤ 1000 ∧ ((progR r).1.all fun F => decide (F.params.length ≤ 1000000)) = true then srcR FU (progR r) else none
def nestOk (d : Nat) : Bool := match nestS d with
  | none => false
  | some sr => match genR FU sr with
    | none => false
    | some r => r.e == 0 && (match r.fns with | [F] => F.params == 0 && (match virtS FU [0] F with | some v => v == ((d + 1 : Nat) : Int) | none => false) | _ => false)
theorem nest_good (d : Nat) : ∀ w ∈ nestW d, goodW w = true := by
  have g1 : ∀ w ∈ [k_fn, k_main, [40], [41], [123], k_print], goodW w = true := by decide +kernel
  have g2 : ∀ w ∈ w_one, goodW w = true := by decide +kernel
  have g3 : ∀ w ∈ [[(41 : UInt8)]], goodW w = true := by decide +kernel
  have g4 : ∀ w ∈ [[(59 : UInt8)]], goodW w = true := by decide +kernel
  have g5 : goodW [49] = true := by decide +kernel
  intro w hw
  unfold nestW at hw
  simp only [List.mem_append, List.mem_cons (b := [(49 : UInt8)])] at hw
  rcases hw with hw | hw | hw | hw | hw
  · exact g1 w (by simpa using hw)
  · exact g2 w (reps_mem _ _ hw)
  · rw [hw]; exact g5
  · exact g3 w (reps_mem _ _ hw)
  · exact g4 w hw
theorem nest_src (b : ByteArray) (d : Nat) (hb : b.data.toList = flatW (nestW d) ++ [125]) (hs : b.size ≤ 4000) (hok : nestOk d = true) :
    ∃ sr r F, srcT 1000000 b = some sr ∧ genR 1000000 sr = some r ∧ r.e = 0 ∧ r.fns = [F] ∧ F.params = 0 ∧ virtS 1000000 [0] F = some ((d + 1 : Nat) : Int) := by
  have ht := tokens_words b hs (nestW d) [125] (nest_good d) (by decide +kernel) hb
  have hz : b.size = nestSz d := by rw [size_data, hb]; simp [nestSz]
  unfold nestOk at hok
  split at hok
  · cases hok
  rename_i sr hsr
  split at hok
  · cases hok
  rename_i r hr
  simp only [Bool.and_eq_true] at hok
  obtain ⟨he, hok⟩ := hok
  split at hok
  case h_2 => cases hok
  rename_i F hF
  simp only [Bool.and_eq_true] at hok
  obtain ⟨hp0, hok⟩ := hok
  split at hok
  case h_2 => cases hok
  rename_i v hv
  refine ⟨sr, r, F, ?_, hr, by simpa using he, hF, by simpa using hp0, ?_⟩
  · unfold srcT progT
    rw [ht]
    simp only
    have hl : (toksAt 0 (nestW d ++ [[125]])).length ≤ 1000000 := by
      have := len_flat (nestW d)
      have hz2 : b.size = (flatW (nestW d)).length + 1 := by rw [size_data, hb]; simp
      rw [toksAt_len]
      simp
      omega
    rw [if_pos hl, hz]
    unfold nestS at hsr
    rw [show (1000000 : Nat) = FU from rfl]
    split at hsr
    · cases hsr
    rename_i r0 hr0
    rw [hr0]
    exact hsr
  · rw [show (1000000 : Nat) = FU from rfl, hv]
    simpa using hok
end Go.Proofs.YtjofmihdeblbmaaGreatDoor.Xa

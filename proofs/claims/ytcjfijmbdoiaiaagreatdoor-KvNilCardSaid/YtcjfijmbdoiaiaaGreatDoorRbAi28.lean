/- What a piece of code comes to, as a rewriting of what is to hold behind it. -/
import Derived.Test.YtcjfijmbdoiaiaaGreatDoorRbAi27
import Derived.IntWalk
set_option linter.unusedSimpArgs false
set_option linter.unusedVariables false
namespace Go.Ai

/-! ## What is still to be run -/

inductive Fr where
  | ops (l : List AOper)
  | code (c : AC)
  | blk (id : Nat)

/-- Leaving by an exit, or (none) going on. -/
def krun (call : ACall) (N : Nat) : Option Nat → List Fr → Tm → AS → Option (AE × Tm × AS)
  | none, [], tm, s => some (.normal, tm, s)
  | none, .ops l :: fs, tm, s =>
    match aops call l tm s with
    | some (tm', s') => krun call N none fs tm' s'
    | none => none
  | none, .code c :: fs, tm, s =>
    match aexec call N c tm s with
    | some (.normal, tm', s') => krun call N none fs tm' s'
    | some (.exit id, tm', s') => krun call N (some id) fs tm' s'
    | some (.ret, tm', s') => some (.ret, tm', s')
    | none => none
  | none, .blk _ :: fs, tm, s => krun call N none fs tm s
  | some id, [], tm, s => some (.exit id, tm, s)
  | some id, .blk id' :: fs, tm, s => if id = id' then krun call N none fs tm s else krun call N (some id) fs tm s
  | some id, .ops _ :: fs, tm, s => krun call N (some id) fs tm s
  | some id, .code _ :: fs, tm, s => krun call N (some id) fs tm s

def wpK (call : ACall) (N : Nat) (fs : List Fr) (tm : Tm) (s : AS) (Q : AE → Tm → AS → Prop) : Prop := match krun call N none fs tm s with
  | some (e, tm', s') => Q e tm' s'
  | none => False
def wpX (call : ACall) (N : Nat) (id : Nat) (fs : List Fr) (tm : Tm) (s : AS) (Q : AE → Tm → AS → Prop) : Prop := match krun call N (some id) fs tm s with
  | some (e, tm', s') => Q e tm' s'
  | none => False
/-- Behind an operation's answer. -/
def wpV (call : ACall) (N : Nat) (x : Option (AV × AS)) (d : Option Nat) (fs : List Fr) (tm : Tm) (Q : AE → Tm → AS → Prop) : Prop := match x with
  | some (v, s') => wpK call N fs (tm.put d v) s' Q
  | none => False
/-- Behind a test. -/
def wpB (call : ACall) (N : Nat) (v : AV) (a b : AC) (fs : List Fr) (tm : Tm) (s : AS) (Q : AE → Tm → AS → Prop) : Prop := match v with
  | .bool true => wpK call N (.code a :: fs) tm s Q
  | .bool false => wpK call N (.code b :: fs) tm s Q
  | _ => False
/-- A guarded operation. -/
def wpG (call : ACall) (N : Nat) (v : AV) (want : Bool) (o : AOper) (fs : List Fr) (tm : Tm) (s : AS) (Q : AE → Tm → AS → Prop) : Prop := match v with
  | .bool b => if b = want then wpK call N (.ops [⟨o.dst, o.op, none⟩] :: fs) tm s Q else wpK call N fs (tm.put o.dst AV.undef) s Q
  | _ => wpK call N fs (tm.put o.dst AV.undef) s Q
def wpR (tm : Tm) (s : AS) (rs : List AR) (R : AV → AS → Prop) : Prop := match ares tm s rs with
  | some vs => R (retV vs) s
  | none => False
/-- A function's end. -/
def FQ (rs : List AR) (R : AV → AS → Prop) (e : AE) (tm : Tm) (s : AS) : Prop := match e with
  | .exit _ => False
  | _ => wpR tm s rs R
/-- A loop's round. -/
def LQ {α : Type} (I : α → Tm → AS → Prop) (m : α → Nat) (x : α) (E : AE → Tm → AS → Prop) (e : AE) (tm : Tm) (s : AS) : Prop := match e with
  | .normal => ∃ y, m y < m x ∧ I y tm s
  | .exit id => E (.exit id) tm s
  | .ret => E .ret tm s

section
variable {call : ACall} {N : Nat} {tm : Tm} {s : AS} {fs : List Fr} {Q : AE → Tm → AS → Prop}

theorem wpK_nil : wpK call N [] tm s Q = Q .normal tm s := rfl
theorem wpK_blk (id : Nat) : wpK call N (.blk id :: fs) tm s Q = wpK call N fs tm s Q := rfl
theorem wpK_opsnil : wpK call N (.ops [] :: fs) tm s Q = wpK call N fs tm s Q := rfl
theorem wpX_nil (id : Nat) : wpX call N id [] tm s Q = Q (.exit id) tm s := rfl
theorem wpX_ops (id : Nat) (l : List AOper) : wpX call N id (.ops l :: fs) tm s Q = wpX call N id fs tm s Q := rfl
theorem wpX_code (id : Nat) (c : AC) : wpX call N id (.code c :: fs) tm s Q = wpX call N id fs tm s Q := rfl
theorem wpX_blk (id id' : Nat) : wpX call N id (.blk id' :: fs) tm s Q = if id = id' then wpK call N fs tm s Q else wpX call N id fs tm s Q := by
  unfold wpX wpK
  simp only [krun]
  by_cases h : id = id' <;> simp [h]

theorem wpK_skip : wpK call N (.code .skip :: fs) tm s Q = wpK call N fs tm s Q := rfl
theorem wpK_ret : wpK call N (.code .ret :: fs) tm s Q = Q .ret tm s := rfl
theorem wpK_exit (id : Nat) : wpK call N (.code (.exit id) :: fs) tm s Q = wpX call N id fs tm s Q := rfl
theorem wpK_region (l : List AOper) : wpK call N (.code (.region l) :: fs) tm s Q = wpK call N (.ops l :: fs) tm s Q := by
  simp only [wpK, krun, aexec]
  cases aops call l tm s with
  | none => rfl
  | some p => rfl
theorem wpK_seq (a b : AC) : wpK call N (.code (.seq a b) :: fs) tm s Q = wpK call N (.code a :: .code b :: fs) tm s Q := by
  simp only [wpK, krun, aexec]
  cases aexec call N a tm s with
  | none => rfl
  | some p => obtain ⟨e, t1, s1⟩ := p; cases e <;> rfl
theorem wpK_block (id : Nat) (b : AC) : wpK call N (.code (.block id b) :: fs) tm s Q = wpK call N (.code b :: .blk id :: fs) tm s Q := by
  simp only [wpK, krun, aexec]
  cases aexec call N b tm s with
  | none => rfl
  | some p =>
    obtain ⟨e, t1, s1⟩ := p
    cases e with
    | exit id' => by_cases h : id' = id <;> simp [h, krun]
    | _ => rfl
theorem wpK_cond (c : AX) (a b : AC) : wpK call N (.code (.cond c a b) :: fs) tm s Q = wpB call N (c.ev tm) a b fs tm s Q := by
  simp only [wpK, wpB, krun, aexec]
  cases c.ev tm with
  | bool t => cases t <;> rfl
  | _ => rfl
theorem wpB_bool (t : Bool) (a b : AC) : wpB call N (.bool t) a b fs tm s Q = ((t = true → wpK call N (.code a :: fs) tm s Q) ∧ (t = false → wpK call N (.code b :: fs) tm s Q)) := by
  cases t <;> simp [wpB]
theorem wpB_true (a b : AC) : wpB call N (.bool true) a b fs tm s Q = wpK call N (.code a :: fs) tm s Q := rfl
theorem wpB_false (a b : AC) : wpB call N (.bool false) a b fs tm s Q = wpK call N (.code b :: fs) tm s Q := rfl

theorem wpK_op (d : Option Nat) (op : AOp) (r : List AOper) : wpK call N (.ops (⟨d, op, none⟩ :: r) :: fs) tm s Q = wpV call N (aoper call tm s op) d (.ops r :: fs) tm Q := by
  simp only [wpK, wpV, krun, aops, AOper.wanted, if_true]
  cases h : aoper call tm s op with
  | none => rfl
  | some p => rfl
theorem wpK_opg (d : Option Nat) (op : AOp) (g : Nat) (want : Bool) (r : List AOper) : wpK call N (.ops (⟨d, op, some (g, want)⟩ :: r) :: fs) tm s Q = wpG call N (tm.at g) want ⟨d, op, none⟩ (.ops r :: fs) tm s Q := by
  have key : ∀ v, tm.at g = v → wpK call N (.ops (⟨d, op, some (g, want)⟩ :: r) :: fs) tm s Q = wpG call N v want ⟨d, op, none⟩ (.ops r :: fs) tm s Q := by
    intro v hv
    have hw : ∀ v, tm.at g = v → (⟨d, op, some (g, want)⟩ : AOper).wanted tm = (match v with | .bool b => b == want | _ => false) := by
      rintro _ rfl; rfl
    have hw := hw v hv
    clear hv
    cases v with
    | bool b =>
      simp only [wpG, wpK_op]
      by_cases hb : b = want
      · simp only [wpK, wpV, krun, aops, hw]
        simp only [hb, beq_self_eq_true, if_true]
        cases h : aoper call tm s op with
        | none => rfl
        | some p => rfl
      · have : (b == want) = false := by simpa using hb
        simp only [wpK, krun, aops, hw]
        simp [hb, this]
    | _ =>
      simp only [wpG, wpK, krun, aops, hw]
      rfl
  exact key _ rfl
theorem wpG_bool (b want : Bool) (o : AOper) : wpG call N (.bool b) want o fs tm s Q = if b = want then wpK call N (.ops [⟨o.dst, o.op, none⟩] :: fs) tm s Q else wpK call N fs (tm.put o.dst AV.undef) s Q := rfl
theorem wpG_tt (o : AOper) : wpG call N (.bool true) true o fs tm s Q = wpK call N (.ops [⟨o.dst, o.op, none⟩] :: fs) tm s Q := rfl
theorem wpG_ff (o : AOper) : wpG call N (.bool false) false o fs tm s Q = wpK call N (.ops [⟨o.dst, o.op, none⟩] :: fs) tm s Q := rfl
theorem wpG_tf (o : AOper) : wpG call N (.bool true) false o fs tm s Q = wpK call N fs (tm.put o.dst AV.undef) s Q := rfl
theorem wpG_ft (o : AOper) : wpG call N (.bool false) true o fs tm s Q = wpK call N fs (tm.put o.dst AV.undef) s Q := rfl

theorem wpV_some (v : AV) (s' : AS) (d : Nat) : wpV call N (some (v, s')) (some d) fs tm Q = wpK call N fs (tm.put (some d) v) s' Q := rfl
theorem wpV_some' (v : AV) (s' : AS) : wpV call N (some (v, s')) none fs tm Q = wpK call N fs tm s' Q := rfl
theorem wpV_none (d : Option Nat) : wpV call N none d fs tm Q = False := rfl
theorem wpV_ite (c : Prop) [Decidable c] (x : Option (AV × AS)) (d : Option Nat) : wpV call N (if c then x else none) d fs tm Q = (c ∧ wpV call N x d fs tm Q) := by
  by_cases h : c <;> simp [wpV, h]
theorem wpV_ite' (c : Prop) [Decidable c] (x : Option (AV × AS)) (d : Option Nat) : wpV call N (if c then none else x) d fs tm Q = (¬ c ∧ wpV call N x d fs tm Q) := by
  by_cases h : c <;> simp [wpV, h]

theorem wpV_ex {x : Option (AV × AS)} {d : Option Nat} (h : ∃ v s', x = some (v, s') ∧ wpK call N fs (tm.put d v) s' Q) : wpV call N x d fs tm Q := by
  obtain ⟨v, s', rfl, h⟩ := h; exact h

theorem wpK_mono {Q' : AE → Tm → AS → Prop} (h : wpK call N fs tm s Q) (hQ : ∀ e tm' s', Q e tm' s' → Q' e tm' s') : wpK call N fs tm s Q' := by
  unfold wpK at *
  split at h
  · exact hQ _ _ _ h
  · exact h.elim

/-- Code, and what is behind it. -/
theorem wpK_cut {c : AC} (E : AE → Tm → AS → Prop) (h : wpK call N [.code c] tm s E) (hn : ∀ tm' s', E .normal tm' s' → wpK call N fs tm' s' Q)
    (hx : ∀ id tm' s', E (.exit id) tm' s' → wpX call N id fs tm' s' Q) (hr : ∀ tm' s', E .ret tm' s' → Q .ret tm' s') : wpK call N (.code c :: fs) tm s Q := by
  have h2 : match aexec call N c tm s with
    | some (e, tm', s') => E e tm' s'
    | none => False := by
    unfold wpK at h
    simp only [krun] at h
    cases he : aexec call N c tm s with
    | none => rw [he] at h; exact h
    | some p => obtain ⟨e, t1, s1⟩ := p; rw [he] at h; cases e <;> exact h
  unfold wpK
  simp only [krun]
  cases he : aexec call N c tm s with
  | none => rw [he] at h2; exact h2.elim
  | some p =>
    obtain ⟨e, t1, s1⟩ := p
    rw [he] at h2
    cases e with
    | normal => exact hn _ _ h2
    | exit id => exact hx _ _ _ h2
    | ret => exact hr _ _ h2

theorem wpK_loop (b : AC) (E : AE → Tm → AS → Prop) {α : Type} (I : α → Tm → AS → Prop) (m : α → Nat) (h : ∀ x tm s, I x tm s → m x < N → wpK call N [.code b] tm s (LQ I m x E))
    (x : α) (hx : I x tm s) (hN : m x < N) (hex : ∀ id tm' s', E (.exit id) tm' s' → wpX call N id fs tm' s' Q) (hr : ∀ tm' s', E .ret tm' s' → Q .ret tm' s') : wpK call N (.code (.loop b) :: fs) tm s Q := by
  have key : ∀ n x tm s, I x tm s → m x < n → m x < N → ∃ e tm' s', aloop (aexec call N b) n tm s = some (e, tm', s') ∧ e ≠ .normal ∧ E e tm' s' := by
    intro n
    induction n with
    | zero => intro x tm s _ h; omega
    | succ n ih =>
      intro x tm s hx hn hN
      have h1 := h x tm s hx hN
      unfold wpK at h1
      simp only [krun] at h1
      simp only [aloop]
      cases he : aexec call N b tm s with
      | none => rw [he] at h1; exact h1.elim
      | some p =>
        obtain ⟨e, t1, s1⟩ := p
        rw [he] at h1
        cases e with
        | normal =>
          obtain ⟨y, hy, hI⟩ := h1
          exact ih y t1 s1 hI (by omega) (by omega)
        | exit id => exact ⟨_, _, _, rfl, by simp, h1⟩
        | ret => exact ⟨_, _, _, rfl, by simp, h1⟩
  obtain ⟨e, t1, s1, h1, h2, h3⟩ := key N x tm s hx hN hN
  refine wpK_cut (fun e tm' s' => e ≠ .normal ∧ E e tm' s') ?_ (fun _ _ h => absurd rfl h.1) (fun _ _ _ h => hex _ _ _ h.2) (fun _ _ h => hr _ _ h.2)
  unfold wpK
  simp only [krun, aexec, h1]
  cases e with
  | normal => exact absurd rfl h2
  | exit id => exact ⟨h2, h3⟩
  | ret => exact ⟨h2, h3⟩

theorem LQ_normal {α : Type} {I : α → Tm → AS → Prop} {m : α → Nat} {x : α} {E : AE → Tm → AS → Prop} : LQ I m x E .normal tm s = ∃ y, m y < m x ∧ I y tm s := rfl
theorem LQ_exit {α : Type} {I : α → Tm → AS → Prop} {m : α → Nat} {x : α} {E : AE → Tm → AS → Prop} (id : Nat) : LQ I m x E (.exit id) tm s = E (.exit id) tm s := rfl
theorem LQ_ret {α : Type} {I : α → Tm → AS → Prop} {m : α → Nat} {x : α} {E : AE → Tm → AS → Prop} : LQ I m x E .ret tm s = E .ret tm s := rfl
theorem FQ_normal {rs : List AR} {R : AV → AS → Prop} : FQ rs R .normal tm s = wpR tm s rs R := rfl
theorem FQ_ret {rs : List AR} {R : AV → AS → Prop} : FQ rs R .ret tm s = wpR tm s rs R := rfl

theorem wpR_nil (R : AV → AS → Prop) : wpR tm s [] R = R (.tuple []) s := rfl
theorem wpR_one (t : Nat) (R : AV → AS → Prop) : wpR tm s [.tmp t] R = R (tm.at t) s := rfl
theorem wpR_two (t u : Nat) (R : AV → AS → Prop) : wpR tm s [.tmp t, .tmp u] R = R (.tuple [tm.at t, tm.at u]) s := rfl
theorem wpR_three (t u v : Nat) (R : AV → AS → Prop) : wpR tm s [.tmp t, .tmp u, .tmp v] R = R (.tuple [tm.at t, tm.at u, tm.at v]) s := rfl

/-- A function's run, by what is to hold of its answer. -/
theorem afn_of_wpK {fn : AFn} {args : List AV} {R : AV → AS → Prop} (hl : args.length ≤ fn.ntmps) (h : wpK call N [.code fn.body] (initTm 0 args .leaf) s (FQ fn.res R)) : ∃ r s', afn call N fn args s = some (r, s') ∧ R r s' := by
  unfold wpK at h
  simp only [krun] at h
  unfold afn
  rw [if_neg (by omega)]
  cases he : aexec call N fn.body (initTm 0 args .leaf) s with
  | none => rw [he] at h; exact h.elim
  | some p =>
    obtain ⟨e, t1, s1⟩ := p
    rw [he] at h
    cases e with
    | exit id => exact h.elim
    | _ =>
      simp only [FQ, wpR] at h
      simp only
      cases ha : ares t1 s1 fn.res with
      | none => rw [ha] at h; exact h.elim
      | some vs => rw [ha] at h; exact ⟨_, _, rfl, h⟩

/-! ## Slots -/

theorem at_put (d : Nat) (v : AV) (t : Nat) : (tm.put (some d) v).at t = if d = t then v else tm.at t := by
  rw [Tm.put_at]; simp
theorem put_none (v : AV) : tm.put none v = tm := rfl
theorem at_leaf (t : Nat) : Tm.at PT.leaf t = AV.undef := by simp [Tm.at, PT.get]
theorem init_cons (k : Nat) (v : AV) (l : List AV) (tm : Tm) : initTm k (v :: l) tm = initTm (k + 1) l (tm.put (some k) v) := rfl
theorem init_nil (k : Nat) (tm : Tm) : initTm k [] tm = tm := rfl
theorem ev_tmp (t : Nat) : (AX.tmp t).ev tm = tm.at t := rfl
theorem ev_const (v : AV) : (AX.const v).ev tm = v := rfl

/-! ## Heaps -/

theorem get_put_same (s : AS) (b : Nat) (o : ABlk) : (s.put b o).get b = some o := by rw [AS.get_put]; simp
theorem get_put_ne (s : AS) (b : Nat) (o : ABlk) (c : Nat) (h : c ≠ b) : (s.put b o).get c = s.get c := by rw [AS.get_put]; simp [h]
theorem get_new_same (s : AS) (o : ABlk) : (s.new o).get s.nx = some o := by rw [AS.get_new]; simp
theorem get_new_ne (s : AS) (o : ABlk) (c : Nat) (h : c ≠ s.nx) : (s.new o).get c = s.get c := by rw [AS.get_new]; simp [h]
theorem get_kill_ne (s : AS) (b : Nat) (c : Nat) (h : c ≠ b) : (s.kill b).get c = s.get c := by rw [AS.get_kill]; simp [h]
theorem nx_put (s : AS) (b : Nat) (o : ABlk) : (s.put b o).nx = s.nx := rfl
theorem nx_new (s : AS) (o : ABlk) : (s.new o).nx = s.nx + 1 := rfl
theorem nx_kill (s : AS) (b : Nat) : (s.kill b).nx = s.nx := rfl

def loadsB (x : Option ABlk) (o n : Nat) : Option (List AV) := match x with
  | some (.cells cs _ _ _ _) => takeX n (cs.drop o)
  | _ => none
theorem loads_eq (b o n : Nat) : s.loads b o n = loadsB (s.get b) o n := by
  unfold AS.loads loadsB
  split <;> simp_all
theorem loadsB_cells (cs : List AV) (e : Nat) (x r : Bool) (el : Option TypeId) (o n : Nat) : loadsB (some (.cells cs e x r el)) o n = takeX n (cs.drop o) := rfl
def storesB (s : AS) (b : Nat) (x : Option ABlk) (o : Nat) (vs : List AV) : Option AS := match x with
  | some (.cells cs esz ex false el) => if vs.all AV.one then (spliceX o vs cs).map fun cs' => s.put b (.cells cs' esz ex false el) else none
  | _ => none
theorem stores_eq (b o : Nat) (vs : List AV) : s.stores b o vs = storesB s b (s.get b) o vs := by
  unfold AS.stores storesB
  split <;> simp_all
theorem storesB_cells (b : Nat) (cs : List AV) (e : Nat) (x : Bool) (el : Option TypeId) (o : Nat) (vs : List AV) (h : vs.all AV.one = true) : storesB s b (some (.cells cs e x false el)) o vs = (spliceX o vs cs).map fun cs' => s.put b (.cells cs' e x false el) := by
  simp [storesB, h]

theorem takeX_zero {α : Type} (l : List α) : takeX 0 l = some [] := by cases l <;> rfl
theorem takeX_succ {α : Type} (n : Nat) (x : α) (l : List α) : takeX (n + 1) (x :: l) = (takeX n l).map (x :: ·) := rfl
theorem takeX_one {α : Type} (l : List α) (i : Nat) (x : α) (h : l[i]? = some x) : takeX 1 (l.drop i) = some [x] := by
  have hl : i < l.length := (List.getElem?_eq_some_iff.1 h).1
  rw [List.drop_eq_getElem_cons hl, takeX_succ, takeX_zero]
  have := List.getElem?_eq_getElem hl
  rw [h] at this
  cases this
  rfl
theorem spliceX_z {α : Type} (v : α) (vs : List α) (x : α) (l : List α) : spliceX 0 (v :: vs) (x :: l) = (spliceX 0 vs l).map (v :: ·) := rfl
theorem spliceX_z0 {α : Type} (l : List α) : spliceX 0 [] l = some l := by cases l <;> rfl
theorem spliceX_s {α : Type} (n : Nat) (v : α) (vs : List α) (x : α) (l : List α) : spliceX (n + 1) (v :: vs) (x :: l) = (spliceX n (v :: vs) l).map (x :: ·) := rfl
theorem spliceX_one {α : Type} (v : α) : ∀ (l : List α) (i : Nat), i < l.length → spliceX i [v] l = some (l.set i v)
  | [], _, h => absurd h (by simp)
  | x :: l, 0, _ => by rw [spliceX_z, spliceX_z0]; rfl
  | x :: l, i + 1, h => by rw [spliceX_s, spliceX_one v l i (by simpa using h)]; rfl

theorem map_some {α β : Type} (f : α → β) (x : α) : Option.map f (some x) = some (f x) := rfl

/-! ## Operations -/

theorem aoper_mov (x : AX) : aoper call tm s (.mov x) = some (x.ev tm, s) := rfl
def xo_pick (c a b : AV) (s : AS) : Option (AV × AS) := match c with
  | .bool t => some (if t then a else b, s)
  | _ => none
theorem aoper_pick (c a b : AX) : aoper call tm s (.pick c a b) = xo_pick (c.ev tm) (a.ev tm) (b.ev tm) s := rfl
theorem xo_pick_t (a b : AV) : xo_pick (.bool true) a b s = some (a, s) := rfl
theorem xo_pick_f (a b : AV) : xo_pick (.bool false) a b s = some (b, s) := rfl
theorem aoper_alloc (z : List AV) (esz : Nat) (el : TypeId) : aoper call tm s (.alloc z esz el) = some (.ptr (some (s.nx, 0)), s.new (.cells z esz true false (some el))) := rfl
theorem aoper_box (x : AX) (esz : Nat) : aoper call tm s (.box x esz) = some (.ptr (some (s.nx, 0)), s.new (.cells (x.ev tm).cells esz true false none)) := rfl
def xo_build (cs : Option (List AV)) (s : AS) : Option (AV × AS) := match cs with
  | some cs => some (.agg cs, s)
  | none => none
theorem aoper_build (z : List AV) (ps : List (Nat × Nat × AX)) : aoper call tm s (.build z ps) = xo_build (fillX tm z ps) s := by
  show (fillX tm z ps).map _ = _
  cases fillX tm z ps <;> rfl
theorem xo_build_some (cs : List AV) : xo_build (some cs) s = some (.agg cs, s) := rfl
def xo_buildSl (cs : Option (List AV)) (len esz : Nat) (s : AS) : Option (AV × AS) := match cs with
  | some cs => some (.slice (some (s.nx, 0)) len len, s.new (.cells cs esz true false none))
  | none => none
theorem aoper_buildSl (z : List AV) (len esz : Nat) (ps : List (Nat × Nat × AX)) : aoper call tm s (.buildSl z len esz ps) = xo_buildSl (fillX tm z ps) len esz s := by
  simp only [aoper, acallee, aalloc, xo_buildSl]
  cases fillX tm z ps <;> rfl
theorem xo_buildSl_some (cs : List AV) (len esz : Nat) : xo_buildSl (some cs) len esz s = some (.slice (some (s.nx, 0)) len len, s.new (.cells cs esz true false none)) := rfl
theorem fillX_nil (cs : List AV) : fillX tm cs [] = some cs := rfl
def fillV (v : List AV) (off size : Nat) (cs : List AV) : Option (List AV) := if v.length = size && decide (off + size ≤ cs.length) then spliceX off v cs else none
def fillR (tm : Tm) (cs : Option (List AV)) (r : List (Nat × Nat × AX)) : Option (List AV) := match cs with
  | some cs => fillX tm cs r
  | none => none
theorem fillX_cons (cs : List AV) (off size : Nat) (x : AX) (r : List (Nat × Nat × AX)) : fillX tm cs ((off, size, x) :: r) = fillR tm (fillV (x.ev tm).cells off size cs) r := by
  simp only [fillX, fillV]
  split
  · cases spliceX off (x.ev tm).cells cs <;> rfl
  · rfl
theorem fillR_some (cs : List AV) (r : List (Nat × Nat × AX)) : fillR tm (some cs) r = fillX tm cs r := rfl
theorem fillV_ok (v : List AV) (off size : Nat) (cs : List AV) (h : v.length = size) (h2 : off + size ≤ cs.length) : fillV v off size cs = spliceX off v cs := by
  simp [fillV, h, h2]

def xo_l (agg : Bool) (x : Option (List AV)) (s : AS) : Option (AV × AS) := match x with
  | some cs => if agg then some (.agg cs, s) else match cs with | [v] => some (v, s) | _ => none
  | none => none
def xo_load (agg : Bool) (sz : Nat) (a : AV) (s : AS) : Option (AV × AS) := match a with
  | .ptr (some (b, o)) => xo_l agg (loadsB (s.get b) o sz) s
  | _ => none
theorem aoper_load (agg : Bool) (sz : Nat) (a : AX) : aoper call tm s (.load agg sz a) = xo_load agg sz (a.ev tm) s := by
  have e : aoper call tm s (.load agg sz a) = aop tm s (.load agg sz a) := rfl
  rw [e]
  simp only [aop, xo_load]
  generalize a.ev tm = u
  cases u <;> rfl
theorem xo_load_ptr (agg : Bool) (sz b o : Nat) : xo_load agg sz (.ptr (some (b, o))) s = xo_l agg (loadsB (s.get b) o sz) s := rfl
theorem xo_l_agg (cs : List AV) : xo_l true (some cs) s = some (.agg cs, s) := rfl
theorem xo_l_one (v : AV) : xo_l false (some [v]) s = some (v, s) := rfl

def xo_s (x : Option AS) : Option (AV × AS) := match x with
  | some s' => some (AV.undef, s')
  | none => none
def xo_store (sz : Nat) (a v : AV) (s : AS) : Option (AV × AS) := match a with
  | .ptr (some (b, o)) => if v.cells.length = sz then xo_s (storesB s b (s.get b) o v.cells) else none
  | _ => none
theorem aoper_store (sz : Nat) (a x : AX) : aoper call tm s (.store sz a x) = xo_store sz (a.ev tm) (x.ev tm) s := by
  have e : aoper call tm s (.store sz a x) = aop tm s (.store sz a x) := rfl
  rw [e]
  simp only [aop, xo_store]
  split <;> simp_all [stores_eq, xo_s]
  split
  · cases storesB _ _ _ _ _ <;> rfl
  · rfl
theorem xo_store_ptr (sz b o : Nat) (v : AV) (h : v.cells.length = sz) : xo_store sz (.ptr (some (b, o))) v s = xo_s (storesB s b (s.get b) o v.cells) := by simp [xo_store, h]
theorem xo_s_some (s' : AS) : xo_s (some s') = some (AV.undef, s') := rfl
def xo_nilck (x : AV) (s : AS) : Option (AV × AS) := match x with
  | .ptr none => none
  | .nilIface => none
  | .nilFunc => none
  | .func (.method _) _ _ => none
  | v => some (v, s)
theorem aoper_nilck (x : AX) : aoper call tm s (.nilck x) = xo_nilck (x.ev tm) s := rfl
theorem xo_nilck_ptr (p : Nat × Nat) : xo_nilck (.ptr (some p)) s = some (.ptr (some p), s) := rfl
def xo_ibin (op : BinOp) (x y : AV) (s : AS) : Option (AV × AS) := match x, y with
  | .int k a, .int k' b => (ibinX op k a k' b).map fun v => (v, s)
  | _, _ => none
theorem aoper_ibin (op : BinOp) (x y : AX) : aoper call tm s (.ibin op x y) = xo_ibin op (x.ev tm) (y.ev tm) s := rfl
theorem xo_add (k : IntKind) (a b : Int) : xo_ibin .add (.int k a) (.int k b) s = some (.int k (k.wrap (a + b)), s) := by simp [xo_ibin, ibinX]
theorem xo_sub (k : IntKind) (a b : Int) : xo_ibin .sub (.int k a) (.int k b) s = some (.int k (k.wrap (a - b)), s) := by simp [xo_ibin, ibinX]
theorem xo_mul (k : IntKind) (a b : Int) : xo_ibin .mul (.int k a) (.int k b) s = some (.int k (k.wrap (a * b)), s) := by simp [xo_ibin, ibinX]
theorem xo_quo (k : IntKind) (a b : Int) (h : b ≠ 0) : xo_ibin .quo (.int k a) (.int k b) s = some (.int k (k.wrap (a.tdiv b)), s) := by simp [xo_ibin, ibinX, h]
theorem xo_rem (k : IntKind) (a b : Int) (h : b ≠ 0) : xo_ibin .rem (.int k a) (.int k b) s = some (.int k (a.tmod b), s) := by simp [xo_ibin, ibinX, h]
theorem xo_eql (k : IntKind) (a b : Int) : xo_ibin .eql (.int k a) (.int k b) s = some (.bool (decide (a = b)), s) := by simp [xo_ibin, ibinX]; rfl
theorem xo_neq (k : IntKind) (a b : Int) : xo_ibin .neq (.int k a) (.int k b) s = some (.bool (decide (a ≠ b)), s) := by
  simp [xo_ibin, ibinX]
  by_cases h : a = b <;> simp [h]
theorem xo_lss (k : IntKind) (a b : Int) : xo_ibin .lss (.int k a) (.int k b) s = some (.bool (decide (a < b)), s) := by simp [xo_ibin, ibinX]
theorem xo_leq (k : IntKind) (a b : Int) : xo_ibin .leq (.int k a) (.int k b) s = some (.bool (decide (a ≤ b)), s) := by simp [xo_ibin, ibinX]
theorem xo_gtr (k : IntKind) (a b : Int) : xo_ibin .gtr (.int k a) (.int k b) s = some (.bool (decide (b < a)), s) := by simp [xo_ibin, ibinX]
theorem xo_geq (k : IntKind) (a b : Int) : xo_ibin .geq (.int k a) (.int k b) s = some (.bool (decide (b ≤ a)), s) := by simp [xo_ibin, ibinX]
def bandK (k : IntKind) (a b : Int) : Int := k.wrap (BitVec.ofInt k.bits a &&& BitVec.ofInt k.bits b).toNat
def borK (k : IntKind) (a b : Int) : Int := k.wrap (BitVec.ofInt k.bits a ||| BitVec.ofInt k.bits b).toNat
def bxorK (k : IntKind) (a b : Int) : Int := k.wrap (BitVec.ofInt k.bits a ^^^ BitVec.ofInt k.bits b).toNat
def allK (k : IntKind) : Int := if k.signed then -1 else k.max
theorem xo_and (k : IntKind) (a b : Int) : xo_ibin .and (.int k a) (.int k b) s = some (.int k (bandK k a b), s) := by simp [xo_ibin, ibinX, bandK]
theorem xo_or (k : IntKind) (a b : Int) : xo_ibin .or (.int k a) (.int k b) s = some (.int k (borK k a b), s) := by simp [xo_ibin, ibinX, borK]
theorem xo_xor (k : IntKind) (a b : Int) : xo_ibin .xor (.int k a) (.int k b) s = some (.int k (bxorK k a b), s) := by simp [xo_ibin, ibinX, bxorK]
theorem xo_shl (k k' : IntKind) (a b : Int) (h : 0 ≤ b) : xo_ibin .shl (.int k a) (.int k' b) s = some (.int k (k.wrap (a * 2 ^ min b.toNat k.bits)), s) := by
  have : ¬ b < 0 := by omega
  simp [xo_ibin, ibinX, this]
theorem xo_shr (k k' : IntKind) (a b : Int) (h : 0 ≤ b) : xo_ibin .shr (.int k a) (.int k' b) s = some (.int k (a.fdiv (2 ^ min b.toNat k.bits)), s) := by
  have : ¬ b < 0 := by omega
  simp [xo_ibin, ibinX, this]
def xo_sbin (op : BinOp) (x y : AV) (s : AS) : Option (AV × AS) := match x, y with
  | .str a, .str b => (sbinX op a b).map fun v => (v, s)
  | _, _ => none
theorem aoper_sbin (op : BinOp) (x y : AX) : aoper call tm s (.sbin op x y) = xo_sbin op (x.ev tm) (y.ev tm) s := rfl
theorem xo_sadd (a b : List UInt8) (h : a.length + b.length < 4611686018427387904) : xo_sbin .add (.str a) (.str b) s = some (.str (a ++ b), s) := by simp [xo_sbin, sbinX, h]
theorem xo_seql (a b : List UInt8) : xo_sbin .eql (.str a) (.str b) s = some (.bool (a == b), s) := rfl
theorem xo_sneq (a b : List UInt8) : xo_sbin .neq (.str a) (.str b) s = some (.bool !(a == b), s) := rfl
theorem xo_slss (a b : List UInt8) : xo_sbin .lss (.str a) (.str b) s = some (.bool (Op.bytesLess a b), s) := rfl
theorem xo_sleq (a b : List UInt8) : xo_sbin .leq (.str a) (.str b) s = some (.bool (Op.bytesLess a b || a == b), s) := rfl
theorem xo_sgtr (a b : List UInt8) : xo_sbin .gtr (.str a) (.str b) s = some (.bool !(Op.bytesLess a b || a == b), s) := rfl
theorem xo_sgeq (a b : List UInt8) : xo_sbin .geq (.str a) (.str b) s = some (.bool !(Op.bytesLess a b), s) := rfl
def xo_bbin (neg : Bool) (x y : AV) (s : AS) : Option (AV × AS) := match x, y with
  | .bool a, .bool b => some (.bool (if neg then !(a == b) else a == b), s)
  | _, _ => none
theorem aoper_bbin (neg : Bool) (x y : AX) : aoper call tm s (.bbin neg x y) = xo_bbin neg (x.ev tm) (y.ev tm) s := rfl
theorem xo_beq (a b : Bool) : xo_bbin false (.bool a) (.bool b) s = some (.bool (a == b), s) := rfl
theorem xo_bne (a b : Bool) : xo_bbin true (.bool a) (.bool b) s = some (.bool !(a == b), s) := rfl
def xo_nileq (x : Option Bool) (neg : Bool) (s : AS) : Option (AV × AS) := match x with
  | some b => some (.bool (if neg then !b else b), s)
  | none => none
theorem aoper_nileq (k : NK) (neg : Bool) (x y : AX) : aoper call tm s (.nileq k neg x y) = xo_nileq (nileqX k (x.ev tm) (y.ev tm)) neg s := by
  show (nileqX k (x.ev tm) (y.ev tm)).map _ = _
  cases nileqX k (x.ev tm) (y.ev tm) <;> rfl
theorem xo_nileq_f (b : Bool) : xo_nileq (some b) false s = some (.bool b, s) := rfl
theorem xo_nileq_t (b : Bool) : xo_nileq (some b) true s = some (.bool !b, s) := rfl
theorem nileqX_pp (p : Nat × Nat) : nileqX .ptr (.ptr (some p)) (.ptr none) = some false := rfl
theorem nileqX_pn : nileqX .ptr (.ptr none) (.ptr none) = some true := rfl
theorem nileqX_sp (p : Nat × Nat) (l c l' c' : Nat) : nileqX .sl (.slice (some p) l c) (.slice none l' c') = some false := rfl
theorem nileqX_sn (l c l' c' : Nat) : nileqX .sl (.slice none l c) (.slice none l' c') = some true := rfl
def xo_aggeq (neg : Bool) (ks : List KK) (x y : AV) (s : AS) : Option (AV × AS) := match x, y with
  | .agg l, .agg m => xo_nileq (scalEqs ks l m) neg s
  | _, _ => none
theorem aoper_aggeq (neg : Bool) (ks : List KK) (x y : AX) : aoper call tm s (.aggeq neg ks x y) = xo_aggeq neg ks (x.ev tm) (y.ev tm) s := by
  have e : aoper call tm s (.aggeq neg ks x y) = aop tm s (.aggeq neg ks x y) := rfl
  rw [e]
  simp only [aop, xo_aggeq]
  generalize x.ev tm = u
  generalize y.ev tm = v
  split
  · rename_i l m
    simp only
    cases scalEqs ks l m <;> rfl
  · split <;> simp_all
theorem xo_aggeq_agg (neg : Bool) (ks : List KK) (l m : List AV) : xo_aggeq neg ks (.agg l) (.agg m) s = xo_nileq (scalEqs ks l m) neg s := rfl
def xo_un (op : UnOp) (x : AV) (s : AS) : Option (AV × AS) := match op, x with
  | .neg, .int k n => some (.int k (k.wrap (0 - n)), s)
  | .xor, .int k n => some (.int k (k.wrap (BitVec.ofInt k.bits (if k.signed then -1 else k.max) ^^^ BitVec.ofInt k.bits n).toNat), s)
  | .not, .bool b => some (.bool !b, s)
  | _, _ => none
theorem aoper_un (op : UnOp) (x : AX) : aoper call tm s (.un op x) = xo_un op (x.ev tm) s := rfl
theorem xo_not (b : Bool) : xo_un .not (.bool b) s = some (.bool !b, s) := rfl
theorem xo_neg (k : IntKind) (n : Int) : xo_un .neg (.int k n) s = some (.int k (k.wrap (0 - n)), s) := rfl
theorem xo_com (k : IntKind) (n : Int) : xo_un .xor (.int k n) s = some (.int k (bxorK k (allK k) n), s) := rfl
def xo_conv (k : IntKind) (x : AV) (s : AS) : Option (AV × AS) := match x with
  | .int _ n => some (.int k (k.wrap n), s)
  | _ => none
theorem aoper_conv (k : IntKind) (x : AX) : aoper call tm s (.conv k x) = xo_conv k (x.ev tm) s := rfl
theorem xo_conv_int (k k' : IntKind) (n : Int) : xo_conv k (.int k' n) s = some (.int k (k.wrap n), s) := rfl
def xo_smov (x : AV) (s : AS) : Option (AV × AS) := match x with
  | .str t => some (.str t, s)
  | _ => none
theorem aoper_smov (x : AX) : aoper call tm s (.smov x) = xo_smov (x.ev tm) s := rfl
theorem xo_smov_str (t : List UInt8) : xo_smov (.str t) s = some (.str t, s) := rfl
def xo_s2b (x : AV) (s : AS) : Option (AV × AS) := match x with
  | .str t => if t.length < 70368744177664 then some (.slice (some (s.nx, 0)) t.length t.length, s.new (.cells (t.map fun b => AV.int .u8 b.toNat) 1 false false none)) else none
  | _ => none
theorem aoper_s2b (x : AX) : aoper call tm s (.s2b x) = xo_s2b (x.ev tm) s := by
  simp only [aoper, acallee, aalloc, xo_s2b, aop]
  cases x.ev tm <;> try rfl
  rename_i l
  by_cases h : l.length < 70368744177664 <;> simp [h]
theorem xo_s2b_str (t : List UInt8) (h : t.length < 70368744177664) : xo_s2b (.str t) s = some (.slice (some (s.nx, 0)) t.length t.length, s.new (.cells (t.map fun b => AV.int .u8 b.toNat) 1 false false none)) := by simp [xo_s2b, h]
def xo_str (x : Option (List UInt8)) (s : AS) : Option (AV × AS) := match x with
  | some t => some (.str t, s)
  | none => none
def xo_b2s (x : AV) (s : AS) : Option (AV × AS) := match x with
  | .slice none _ _ => some (.str [], s)
  | .slice (some (b, o)) l _ => xo_str ((loadsB (s.get b) o l).bind bytesOf) s
  | _ => none
theorem aoper_b2s (x : AX) : aoper call tm s (.b2s x) = xo_b2s (x.ev tm) s := by
  have e : aoper call tm s (.b2s x) = aop tm s (.b2s x) := rfl
  rw [e]
  simp only [aop, xo_b2s]
  generalize x.ev tm = u
  cases u <;> try rfl
  rename_i p l c
  cases p with
  | none => rfl
  | some p =>
    obtain ⟨b, o⟩ := p
    simp only [loads_eq]
    cases loadsB (s.get b) o l with
    | none => rfl
    | some cs =>
      show (bytesOf cs).map _ = xo_str (bytesOf cs) s
      cases bytesOf cs <;> rfl
theorem xo_b2s_none (l c : Nat) : xo_b2s (.slice none l c) s = some (.str [], s) := rfl
theorem xo_b2s_some (b o l c : Nat) : xo_b2s (.slice (some (b, o)) l c) s = xo_str ((loadsB (s.get b) o l).bind bytesOf) s := rfl
theorem xo_str_some (t : List UInt8) : xo_str (some t) s = some (.str t, s) := rfl
theorem bytesOf_map : ∀ t : List UInt8, bytesOf (t.map fun b => AV.int .u8 b.toNat) = some t
  | [] => rfl
  | b :: t => by
    simp only [List.map_cons, bytesOf, bytesOf_map t, Option.map_some, Int.toNat_natCast]
    rw [UInt8.ofNat_toNat]
theorem aoper_mkI (t : TypeId) (x : AX) : aoper call tm s (.mkI t x) = some (.iface t (x.ev tm), s) := rfl
theorem aoper_mkF (fn : Fn) (first caps : List AX) : aoper call tm s (.mkF fn first caps) = some (.func fn (first.map (AX.ev tm)) (caps.map (AX.ev tm)), s) := rfl
theorem aoper_mkM : aoper call tm s .mkM = some (.map (some s.nx), s.new (.map [])) := rfl
def xo_mkS (z : List AV) (esz bytes : Nat) (len cap : AV) (s : AS) : Option (AV × AS) := match len, cap with
  | .int .i64 l, .int .i64 c =>
    if 0 ≤ l ∧ l ≤ c ∧ c * bytes ≤ 140737488355328 ∧ c ≤ 140737488355328 then some (.slice (some (s.nx, 0)) l.toNat c.toNat, s.new (.cells (repX z c.toNat) esz true false none)) else none
  | _, _ => none
theorem aoper_mkS (z : List AV) (esz bytes : Nat) (len cap : AX) : aoper call tm s (.mkS z esz bytes len cap) = xo_mkS z esz bytes (len.ev tm) (cap.ev tm) s := by
  simp only [aoper, acallee, aalloc, xo_mkS, aop]
  generalize len.ev tm = u
  generalize cap.ev tm = v
  split
  · rename_i l' c' hm
    split at hm
    · split at hm
      · rename_i hc
        cases hm
        simp only [if_pos hc]
      · cases hm
    · cases hm
  · rename_i hm
    split at hm
    · split at hm
      · cases hm
      · rename_i hc
        simp only [if_neg hc]
    · rename_i hno
      split
      · rename_i l c; exact absurd rfl (hno l c rfl)
      · rfl
theorem xo_mkS_int (z : List AV) (esz bytes : Nat) (l c : Int) (h : 0 ≤ l) (h2 : l ≤ c) (h3 : c * bytes ≤ 140737488355328) (h4 : c ≤ 140737488355328) : xo_mkS z esz bytes (.int .i64 l) (.int .i64 c) s = some (.slice (some (s.nx, 0)) l.toNat c.toNat, s.new (.cells (repX z c.toNat) esz true false none)) := by
  simp [xo_mkS, h, h2, h3, h4]
def xo_slS (x : AV) (lo hi : Option AV) (s : AS) : Option (AV × AS) := match x with
  | .str t =>
    match bounds t.length t.length lo hi none with
    | some (l, h, _) => some (.str ((t.drop l).take (h - l)), s)
    | none => none
  | _ => none
theorem aoper_slS (x : AX) (lo hi : Option AX) : aoper call tm s (.slS x lo hi) = xo_slS (x.ev tm) (lo.map (AX.ev tm)) (hi.map (AX.ev tm)) s := rfl
theorem bound_in (k : IntKind) (h : Int) (n : Nat) (h0 : 0 ≤ h) (h1 : h ≤ n) : bound (.int k h) n = some h.toNat := by simp [bound, h0, h1]
theorem bounds_lh (len cap : Nat) (k k' : IntKind) (l h : Int) (h0 : 0 ≤ l) (h1 : l ≤ h) (h2 : h ≤ cap) : bounds len cap (some (.int k l)) (some (.int k' h)) none = some (l.toNat, h.toNat, cap) := by
  unfold bounds
  dsimp only
  rw [bound_in k' h cap (by omega) h2]
  dsimp only
  rw [bound_in k l _ h0 (by omega)]
theorem bounds_l (len cap : Nat) (k : IntKind) (l : Int) (h0 : 0 ≤ l) (h1 : l ≤ len) : bounds len cap (some (.int k l)) none none = some (l.toNat, len, cap) := by
  unfold bounds
  dsimp only
  rw [bound_in k l _ h0 h1]
theorem bounds_h (len cap : Nat) (k : IntKind) (h : Int) (h0 : 0 ≤ h) (h1 : h ≤ cap) : bounds len cap none (some (.int k h)) none = some (0, h.toNat, cap) := by
  unfold bounds
  dsimp only
  rw [bound_in k h _ h0 h1]
theorem xo_slS_lh (t : List UInt8) (k k' : IntKind) (l h : Int) (h0 : 0 ≤ l) (h1 : l ≤ h) (h2 : h ≤ t.length) : xo_slS (.str t) (some (.int k l)) (some (.int k' h)) s = some (.str ((t.drop l.toNat).take (h.toNat - l.toNat)), s) := by
  simp only [xo_slS, bounds_lh t.length t.length k k' l h h0 h1 h2]
theorem xo_slS_l (t : List UInt8) (k : IntKind) (l : Int) (h0 : 0 ≤ l) (h1 : l ≤ t.length) : xo_slS (.str t) (some (.int k l)) none s = some (.str (t.drop l.toNat), s) := by
  simp only [xo_slS, bounds_l t.length t.length k l h0 h1]
  rw [List.take_of_length_le (by simp)]
theorem xo_slS_h (t : List UInt8) (k : IntKind) (h : Int) (h0 : 0 ≤ h) (h1 : h ≤ t.length) : xo_slS (.str t) none (some (.int k h)) s = some (.str (t.take h.toNat), s) := by
  simp only [xo_slS, bounds_h t.length t.length k h h0 h1]
  simp
def xo_slV (esz : Nat) (x : AV) (lo hi mx : Option AV) (s : AS) : Option (AV × AS) := match x with
  | .slice a len cap =>
    match bounds len cap lo hi mx with
    | some (l, h, m) =>
      match a with
      | none => some (.slice none (h - l) (m - l), s)
      | some (b, o) =>
        match s.get b with
        | some (.cells _ esz' ex _ _) => if ex || esz' == esz then some (.slice (some (b, o + l * esz)) (h - l) (m - l), s) else none
        | _ => none
    | none => none
  | _ => none
theorem aoper_slV (esz : Nat) (x : AX) (lo hi mx : Option AX) : aoper call tm s (.slV esz x lo hi mx) = xo_slV esz (x.ev tm) (lo.map (AX.ev tm)) (hi.map (AX.ev tm)) (mx.map (AX.ev tm)) s := rfl
def slVB (esz : Nat) (x : Option ABlk) : Bool := match x with
  | some (.cells _ esz' ex _ _) => ex || esz' == esz
  | _ => false
theorem slVB_cells (esz : Nat) (cs : List AV) (e : Nat) (x r : Bool) (el : Option TypeId) : slVB esz (some (.cells cs e x r el)) = (x || e == esz) := rfl
def slVR (g : Bool) (v : AV) (s : AS) : Option (AV × AS) := if g then some (v, s) else none
theorem slVR_true (v : AV) : slVR true v s = some (v, s) := rfl
theorem xo_slV_aux (esz b o len cap l h m : Nat) (lo hi mx : Option AV) (hb : bounds len cap lo hi mx = some (l, h, m)) : xo_slV esz (.slice (some (b, o)) len cap) lo hi mx s = slVR (slVB esz (s.get b)) (.slice (some (b, o + l * esz)) (h - l) (m - l)) s := by
  simp only [xo_slV, hb, slVR]
  cases hg : s.get b with
  | none => rfl
  | some x => cases x <;> rfl
theorem xo_slV_lh (esz b o len cap : Nat) (k k' : IntKind) (l h : Int) (h0 : 0 ≤ l) (h1 : l ≤ h) (h2 : h ≤ cap) : xo_slV esz (.slice (some (b, o)) len cap) (some (.int k l)) (some (.int k' h)) none s = slVR (slVB esz (s.get b)) (.slice (some (b, o + l.toNat * esz)) (h.toNat - l.toNat) (cap - l.toNat)) s := by
  exact xo_slV_aux _ _ _ _ _ _ _ _ _ _ _ (bounds_lh len cap k k' l h h0 h1 h2)
theorem xo_slV_l (esz b o len cap : Nat) (k : IntKind) (l : Int) (h0 : 0 ≤ l) (h1 : l ≤ len) : xo_slV esz (.slice (some (b, o)) len cap) (some (.int k l)) none none s = slVR (slVB esz (s.get b)) (.slice (some (b, o + l.toNat * esz)) (len - l.toNat) (cap - l.toNat)) s := by
  exact xo_slV_aux _ _ _ _ _ _ _ _ _ _ _ (bounds_l len cap k l h0 h1)
theorem xo_slV_h (esz b o len cap : Nat) (k : IntKind) (h : Int) (h0 : 0 ≤ h) (h1 : h ≤ cap) : xo_slV esz (.slice (some (b, o)) len cap) none (some (.int k h)) none s = slVR (slVB esz (s.get b)) (.slice (some (b, o)) h.toNat cap) s := by
  have := xo_slV_aux (s := s) esz b o len cap 0 h.toNat cap none (some (.int k h)) none (bounds_h len cap k h h0 h1)
  simpa using this
def xo_slA (n esz : Nat) (x : AV) (lo hi mx : Option AV) (s : AS) : Option (AV × AS) := match x with
  | .ptr (some (b, o)) =>
    match bounds n n lo hi mx with
    | some (l, h, m) => some (.slice (some (b, o + l * esz)) (h - l) (m - l), s)
    | none => none
  | _ => none
theorem aoper_slA (n esz : Nat) (x : AX) (lo hi mx : Option AX) : aoper call tm s (.slA n esz x lo hi mx) = xo_slA n esz (x.ev tm) (lo.map (AX.ev tm)) (hi.map (AX.ev tm)) (mx.map (AX.ev tm)) s := rfl
theorem omap_none (f : AX → AV) : Option.map f none = none := rfl
theorem omap_some (f : AX → AV) (x : AX) : Option.map f (some x) = some (f x) := rfl
def xo_fadr (off : Nat) (x : AV) (s : AS) : Option (AV × AS) := match x with
  | .ptr (some (b, o)) => some (.ptr (some (b, o + off)), s)
  | _ => none
theorem aoper_fadr (off : Nat) (x : AX) : aoper call tm s (.fadr off x) = xo_fadr off (x.ev tm) s := rfl
theorem xo_fadr_ptr (off b o : Nat) : xo_fadr off (.ptr (some (b, o))) s = some (.ptr (some (b, o + off)), s) := rfl
def xo_fldl (x : Option (List AV)) (s : AS) : Option (AV × AS) := match x with
  | some l => some (.agg l, s)
  | none => none
def xo_fldv (x : Option AV) (s : AS) : Option (AV × AS) := match x with
  | some v => some (v, s)
  | none => none
def xo_fld (agg : Bool) (off sz : Nat) (x : AV) (s : AS) : Option (AV × AS) := match x with
  | .agg cs => if agg then xo_fldl (takeX sz (cs.drop off)) s else xo_fldv (cs[off]?) s
  | _ => none
theorem aoper_fld (agg : Bool) (off sz : Nat) (x : AX) : aoper call tm s (.fld agg off sz x) = xo_fld agg off sz (x.ev tm) s := by
  have e : aoper call tm s (.fld agg off sz x) = aop tm s (.fld agg off sz x) := rfl
  rw [e]
  simp only [aop, xo_fld]
  split <;> simp_all
  rename_i cs _
  cases agg
  · simp; cases cs[off]? <;> rfl
  · simp; cases takeX sz (cs.drop off) <;> rfl
theorem xo_fld_t (off sz : Nat) (cs : List AV) : xo_fld true off sz (.agg cs) s = xo_fldl (takeX sz (cs.drop off)) s := rfl
theorem xo_fld_f (off sz : Nat) (cs : List AV) : xo_fld false off sz (.agg cs) s = xo_fldv (cs[off]?) s := rfl
theorem xo_fldl_some (l : List AV) : xo_fldl (some l) s = some (.agg l, s) := rfl
theorem xo_fldv_some (v : AV) : xo_fldv (some v) s = some (v, s) := rfl
def xo_iadrA (n esz : Nat) (x i : AV) (s : AS) : Option (AV × AS) := match x, i with
  | .ptr (some (b, o)), .int _ j => if 0 ≤ j ∧ j < n then some (.ptr (some (b, o + j.toNat * esz)), s) else none
  | _, _ => none
theorem aoper_iadrA (n esz : Nat) (x i : AX) : aoper call tm s (.iadrA n esz x i) = xo_iadrA n esz (x.ev tm) (i.ev tm) s := rfl
theorem xo_iadrA_ok (n esz b o : Nat) (k : IntKind) (j : Int) (h0 : 0 ≤ j) (h1 : j < n) : xo_iadrA n esz (.ptr (some (b, o))) (.int k j) s = some (.ptr (some (b, o + j.toNat * esz)), s) := by
  simp [xo_iadrA, h0, h1]
def xo_iadrS (esz : Nat) (x i : AV) (s : AS) : Option (AV × AS) := match x, i with
  | .slice (some (b, o)) l _, .int _ j => if 0 ≤ j ∧ j < l then some (.ptr (some (b, o + j.toNat * esz)), s) else none
  | _, _ => none
theorem aoper_iadrS (esz : Nat) (x i : AX) : aoper call tm s (.iadrS esz x i) = xo_iadrS esz (x.ev tm) (i.ev tm) s := rfl
theorem xo_iadrS_ok (esz b o l c : Nat) (k : IntKind) (j : Int) (h0 : 0 ≤ j) (h1 : j < l) : xo_iadrS esz (.slice (some (b, o)) l c) (.int k j) s = some (.ptr (some (b, o + j.toNat * esz)), s) := by
  simp [xo_iadrS, h0, h1]
def xo_ixA (n : Nat) (agg : Bool) (esz : Nat) (x i : AV) (s : AS) : Option (AV × AS) := match x, i with
  | .agg cs, .int _ j =>
    if 0 ≤ j ∧ j < n then
      if agg then (takeX esz (cs.drop (j.toNat * esz))).map fun l => (.agg l, s) else (cs[j.toNat * esz]?).map fun v => (v, s)
    else none
  | _, _ => none
theorem aoper_ixA (n : Nat) (agg : Bool) (esz : Nat) (x i : AX) : aoper call tm s (.ixA n agg esz x i) = xo_ixA n agg esz (x.ev tm) (i.ev tm) s := rfl
def xo_byte (x : Option UInt8) (s : AS) : Option (AV × AS) := match x with
  | some b => some (.int .u8 b.toNat, s)
  | none => none
def xo_ixS (x i : AV) (s : AS) : Option (AV × AS) := match x, i with
  | .str t, .int _ j => if 0 ≤ j then xo_byte (t[j.toNat]?) s else none
  | _, _ => none
theorem aoper_ixS (x i : AX) : aoper call tm s (.ixS x i) = xo_ixS (x.ev tm) (i.ev tm) s := by
  have e : aoper call tm s (.ixS x i) = aop tm s (.ixS x i) := rfl
  rw [e]
  simp only [aop, xo_ixS]
  generalize x.ev tm = u
  generalize i.ev tm = v
  split
  · rename_i t k j
    simp only
    split
    · cases t[j.toNat]? <;> rfl
    · rfl
  · split <;> simp_all
theorem xo_ixS_ok (t : List UInt8) (k : IntKind) (j : Int) (h0 : 0 ≤ j) : xo_ixS (.str t) (.int k j) s = xo_byte (t[j.toNat]?) s := by simp [xo_ixS, h0]
theorem xo_byte_some (b : UInt8) : xo_byte (some b) s = some (.int .u8 b.toNat, s) := rfl
def lookR (z : AV) (ok : Bool) (x : Option (Option (Nat × AV))) (s : AS) : Option (AV × AS) := match x with
  | some (some (_, v)) => some (if ok then .tuple [v, .bool true] else v, s)
  | some none => some (if ok then .tuple [z, .bool false] else z, s)
  | none => none
def mapB (x : Option ABlk) : Option (List (AV × AV)) := match x with
  | some (.map es) => some es
  | _ => none
theorem mapB_map (es : List (AV × AV)) : mapB (some (.map es)) = some es := rfl
def findE (kk : KK) (k : AV) (x : Option (List (AV × AV))) : Option (Option (Nat × AV)) := match x with
  | some es => findX kk k es 0
  | none => none
theorem findE_some (kk : KK) (k : AV) (es : List (AV × AV)) : findE kk k (some es) = findX kk k es 0 := rfl
def xo_look (kk : KK) (z : AV) (ok : Bool) (m k : AV) (s : AS) : Option (AV × AS) := match m with
  | .map none => some (if ok then .tuple [z, .bool false] else z, s)
  | .map (some r) => lookR z ok (findE kk k (mapB (s.get r))) s
  | _ => none
theorem aoper_look (kk : KK) (z : AV) (ok : Bool) (m k : AX) : aoper call tm s (.look kk z ok m k) = xo_look kk z ok (m.ev tm) (k.ev tm) s := by
  have e : aoper call tm s (.look kk z ok m k) = aop tm s (.look kk z ok m k) := rfl
  rw [e]
  simp only [aop, xo_look]
  generalize m.ev tm = u
  generalize k.ev tm = v
  cases u <;> try rfl
  rename_i p
  cases p with
  | none => rfl
  | some r =>
    simp only
    cases s.get r with
    | none => rfl
    | some x => cases x with
      | map es =>
        simp only [mapB, findE]
        cases findX kk v es 0 with
        | none => rfl
        | some x => cases x <;> rfl
      | _ => rfl
theorem xo_look_map (kk : KK) (z : AV) (ok : Bool) (r : Nat) (k : AV) : xo_look kk z ok (.map (some r)) k s = lookR z ok (findE kk k (mapB (s.get r))) s := rfl
theorem lookR_hit (z : AV) (ok : Bool) (i : Nat) (v : AV) : lookR z ok (some (some (i, v))) s = some (if ok then .tuple [v, .bool true] else v, s) := rfl
theorem lookR_miss (z : AV) (ok : Bool) : lookR z ok (some none) s = some (if ok then .tuple [z, .bool false] else z, s) := rfl
def mupdR (r : Nat) (k v : AV) (es : Option (List (AV × AV))) (x : Option (Option (Nat × AV))) (s : AS) : Option (AV × AS) := match es, x with
  | some es, some (some (i, _)) => some (AV.undef, s.put r (.map (es.set i (k, v))))
  | some es, some none => some (AV.undef, s.put r (.map (es ++ [(k, v)])))
  | _, _ => none
def xo_mupd (kk : KK) (m k v : AV) (s : AS) : Option (AV × AS) := match m with
  | .map (some r) => mupdR r k v (mapB (s.get r)) (findE kk k (mapB (s.get r))) s
  | _ => none
theorem aoper_mupd (kk : KK) (m k v : AX) : aoper call tm s (.mupd kk m k v) = xo_mupd kk (m.ev tm) (k.ev tm) (v.ev tm) s := by
  have e : aoper call tm s (.mupd kk m k v) = aop tm s (.mupd kk m k v) := rfl
  rw [e]
  simp only [aop, xo_mupd]
  generalize m.ev tm = u
  generalize k.ev tm = v
  cases u <;> try rfl
  rename_i p
  cases p with
  | none => rfl
  | some r =>
    simp only
    cases s.get r with
    | none => rfl
    | some x => cases x with
      | map es =>
        simp only [mapB, findE]
        cases findX kk v es 0 with
        | none => rfl
        | some x => cases x <;> rfl
      | _ => rfl
theorem xo_mupd_map (kk : KK) (r : Nat) (k v : AV) : xo_mupd kk (.map (some r)) k v s = mupdR r k v (mapB (s.get r)) (findE kk k (mapB (s.get r))) s := rfl
theorem mupdR_hit (r : Nat) (k v : AV) (es : List (AV × AV)) (i : Nat) (w : AV) : mupdR r k v (some es) (some (some (i, w))) s = some (AV.undef, s.put r (.map (es.set i (k, v)))) := rfl
theorem mupdR_miss (r : Nat) (k v : AV) (es : List (AV × AV)) : mupdR r k v (some es) (some none) s = some (AV.undef, s.put r (.map (es ++ [(k, v)]))) := rfl
def xo_extr (x : AV) (i : Nat) (s : AS) : Option (AV × AS) := match x with
  | .tuple vs => xo_fldv (vs[i]?) s
  | _ => none
theorem aoper_extr (x : AX) (i : Nat) : aoper call tm s (.extr x i) = xo_extr (x.ev tm) i s := by
  have e : aoper call tm s (.extr x i) = aop tm s (.extr x i) := rfl
  rw [e]
  simp only [aop, xo_extr]
  split <;> simp_all
  rename_i vs _
  cases vs[i]? <;> rfl
theorem xo_extr_tuple (vs : List AV) (i : Nat) : xo_extr (.tuple vs) i s = xo_fldv (vs[i]?) s := rfl
def xo_lenM (x : Option (List (AV × AV))) (s : AS) : Option (AV × AS) := match x with
  | some es => some (.int .i64 es.length, s)
  | none => none
def xo_len (k : LK) (x : AV) (s : AS) : Option (AV × AS) := match k, x with
  | .str, .str t => some (.int .i64 t.length, s)
  | .sl, .slice _ l _ => some (.int .i64 l, s)
  | .mp, .map none => some (.int .i64 0, s)
  | .mp, .map (some r) => xo_lenM (mapB (s.get r)) s
  | _, _ => none
theorem aoper_len (k : LK) (x : AX) : aoper call tm s (.len k x) = xo_len k (x.ev tm) s := by
  have e : aoper call tm s (.len k x) = aop tm s (.len k x) := rfl
  rw [e]
  simp only [aop, xo_len]
  generalize x.ev tm = u
  cases k <;> cases u <;> try rfl
  rename_i p
  cases p with
  | none => rfl
  | some r =>
    simp only
    cases s.get r with
    | none => rfl
    | some x => cases x <;> rfl
theorem xo_len_str (t : List UInt8) : xo_len .str (.str t) s = some (.int .i64 t.length, s) := rfl
theorem xo_len_sl (a : Option (Nat × Nat)) (l c : Nat) : xo_len .sl (.slice a l c) s = some (.int .i64 l, s) := rfl
theorem xo_len_mp (r : Nat) : xo_len .mp (.map (some r)) s = xo_lenM (mapB (s.get r)) s := rfl
theorem xo_lenM_some (es : List (AV × AV)) : xo_lenM (some es) s = some (.int .i64 es.length, s) := rfl
theorem aoper_lenC (n : Nat) : aoper call tm s (.lenC n) = some (.int .i64 n, s) := rfl
def capB (o c : Nat) (x : Option ABlk) (s : AS) : Option (AV × AS) := match x with
  | some (.cells cs esz ex _ _) => if ex || !(o + c * esz == cs.length) then some (.int .i64 c, s) else none
  | _ => none
def xo_cap (x : AV) (s : AS) : Option (AV × AS) := match x with
  | .slice none _ c => some (.int .i64 c, s)
  | .slice (some (b, o)) _ c => capB o c (s.get b) s
  | _ => none
theorem aoper_cap (x : AX) : aoper call tm s (.cap x) = xo_cap (x.ev tm) s := rfl
theorem xo_cap_some (b o l c : Nat) : xo_cap (.slice (some (b, o)) l c) s = capB o c (s.get b) s := rfl
theorem xo_cap_none (l c : Nat) : xo_cap (.slice none l c) s = some (.int .i64 c, s) := rfl
theorem aoper_app (esz bytes : Nat) (el : TypeId) (a b : AX) : aoper call tm s (.app esz bytes el a b) = appX esz bytes el s (a.ev tm) (b.ev tm) := rfl
def xo_copyS (n : Nat) (x : Option AS) : Option (AV × AS) := match x with
  | some s' => some (.int .i64 n, s')
  | none => none
def xo_copy (esz : Nat) (d x : AV) (s : AS) : Option (AV × AS) := match d, srcLen x with
  | .slice base dl _, some sl =>
    match srcCells s esz (min sl dl) x with
    | none => none
    | some cs =>
      if !(cs.length == min sl dl * esz) then none else
      match base with
      | none => some (.int .i64 (min sl dl : Nat), s)
      | some (b, o) => xo_copyS (min sl dl) (storesB s b (s.get b) o cs)
  | _, _ => none
theorem aoper_copy (esz : Nat) (d x : AX) : aoper call tm s (.copy esz d x) = xo_copy esz (d.ev tm) (x.ev tm) s := by
  have e : aoper call tm s (.copy esz d x) = aop tm s (.copy esz d x) := rfl
  rw [e]
  simp only [aop, xo_copy]
  generalize d.ev tm = u
  generalize x.ev tm = v
  cases u <;> try rfl
  rename_i base dl c
  cases srcLen v with
  | none => rfl
  | some sl =>
    simp only
    cases srcCells s esz (min sl dl) v with
    | none => rfl
    | some cs =>
      simp only
      by_cases h : (!(cs.length == min sl dl * esz)) = true
      · simp only [h, if_true]
      · simp only [h]
        cases base with
        | none => rfl
        | some p =>
          obtain ⟨b, o⟩ := p
          simp only [stores_eq]
          cases storesB s b (s.get b) o cs <;> rfl
def xo_fold (x : Option AV) (s : AS) : Option (AV × AS) := match x with
  | some v => some (v, s)
  | none => none
theorem aoper_mnmx (mx : Bool) (x : AX) (xs : List AX) : aoper call tm s (.mnmx mx x xs) = xo_fold (foldX mx (x.ev tm) (xs.map (AX.ev tm))) s := by
  show (foldX mx (x.ev tm) (xs.map (AX.ev tm))).map _ = _
  cases foldX mx (x.ev tm) (xs.map (AX.ev tm)) <;> rfl
theorem xo_fold_some (v : AV) : xo_fold (some v) s = some (v, s) := rfl
theorem foldX_nil (mx : Bool) (v : AV) : foldX mx v [] = some v := rfl
theorem foldX_max (k : IntKind) (a b : Int) (l : List AV) : foldX true (.int k a) (.int k b :: l) = foldX true (.int k (max a b)) l := by
  simp only [foldX, mnmxX, if_true]
  have : (if b > a then b else a) = max a b := by rw [Int.max_def]; split <;> split <;> omega
  rw [this]
theorem foldX_min (k : IntKind) (a b : Int) (l : List AV) : foldX false (.int k a) (.int k b :: l) = foldX false (.int k (min a b)) l := by
  simp only [foldX, mnmxX, Bool.false_eq_true, if_false]
  have : (if b < a then b else a) = min a b := by rw [Int.min_def]; split <;> split <;> omega
  rw [this]
def clrMR (r : Nat) (x : Option (List (AV × AV))) (s : AS) : Option (AV × AS) := match x with
  | some _ => some (.tuple [], s.put r (.map []))
  | none => none
def xo_clrM (m : AV) (s : AS) : Option (AV × AS) := match m with
  | .map none => some (.tuple [], s)
  | .map (some r) => clrMR r (mapB (s.get r)) s
  | _ => none
theorem aoper_clrM (m : AX) : aoper call tm s (.clrM m) = xo_clrM (m.ev tm) s := by
  have e : aoper call tm s (.clrM m) = aop tm s (.clrM m) := rfl
  rw [e]
  simp only [aop, xo_clrM]
  generalize m.ev tm = u
  cases u <;> try rfl
  rename_i p
  cases p with
  | none => rfl
  | some r =>
    simp only
    cases s.get r with
    | none => rfl
    | some x => cases x <;> rfl
def delR (r : Nat) (es : Option (List (AV × AV))) (x : Option (Option (Nat × AV))) (s : AS) : Option (AV × AS) := match es, x with
  | some es, some (some (i, _)) => some (.tuple [], s.put r (.map (es.eraseIdx i)))
  | some _, some none => some (.tuple [], s)
  | _, _ => none
def xo_del (kk : KK) (m k : AV) (s : AS) : Option (AV × AS) := match m with
  | .map none => some (.tuple [], s)
  | .map (some r) => delR r (mapB (s.get r)) (findE kk k (mapB (s.get r))) s
  | _ => none
theorem aoper_del (kk : KK) (m k : AX) : aoper call tm s (.del kk m k) = xo_del kk (m.ev tm) (k.ev tm) s := by
  have e : aoper call tm s (.del kk m k) = aop tm s (.del kk m k) := rfl
  rw [e]
  simp only [aop, xo_del]
  generalize m.ev tm = u
  generalize k.ev tm = v
  cases u <;> try rfl
  rename_i p
  cases p with
  | none => rfl
  | some r =>
    simp only
    cases s.get r with
    | none => rfl
    | some x => cases x with
      | map es =>
        simp only [mapB, findE]
        cases findX kk v es 0 with
        | none => rfl
        | some x => cases x <;> rfl
      | _ => rfl
theorem xo_del_map (kk : KK) (r : Nat) (k : AV) : xo_del kk (.map (some r)) k s = delR r (mapB (s.get r)) (findE kk k (mapB (s.get r))) s := rfl
theorem delR_hit (r : Nat) (es : List (AV × AV)) (i : Nat) (w : AV) : delR r (some es) (some (some (i, w))) s = some (.tuple [], s.put r (.map (es.eraseIdx i))) := rfl
theorem delR_miss (r : Nat) (es : List (AV × AV)) : delR r (some es) (some none) s = some (.tuple [], s) := rfl
theorem aoper_call (f : FuncId) (args : List AX) : aoper call tm s (.call f args) = call f (args.map (AX.ev tm)) s := rfl
def xo_callV (call : ACall) (x : AV) (args : List AV) (s : AS) : Option (AV × AS) := match x with
  | .func (.func f) first caps => call f (first ++ args ++ caps) s
  | _ => none
theorem aoper_callV (x : AX) (args : List AX) : aoper call tm s (.callV x args) = xo_callV call (x.ev tm) (args.map (AX.ev tm)) s := by
  have hn : aop tm s (.callV x args) = none := rfl
  have ha : aalloc tm (.callV x args) = none := rfl
  simp only [xo_callV, aoper, acallee, hn, ha]
  generalize x.ev tm = u
  split
  · rename_i f vs hm
    split at hm
    · cases hm; rfl
    · cases hm
  · rename_i hm
    split at hm
    · cases hm
    · rename_i hno
      split
      · rename_i f first caps; exact absurd rfl (hno f first caps)
      · rfl
theorem xo_callV_func (f : FuncId) (first caps args : List AV) : xo_callV call (.func (.func f) first caps) args s = call f (first ++ args ++ caps) s := rfl
def xo_inv (call : ACall) (tbl : List (TypeId × FuncId)) (x : AV) (args : List AV) (s : AS) : Option (AV × AS) := match x with
  | .iface t v =>
    match tbl.find? (·.1 == t) with
    | some (_, f) => call f (v :: args) s
    | none => none
  | _ => none
theorem aoper_inv (tbl : List (TypeId × FuncId)) (x : AX) (args : List AX) : aoper call tm s (.inv tbl x args) = xo_inv call tbl (x.ev tm) (args.map (AX.ev tm)) s := by
  have hn : aop tm s (.inv tbl x args) = none := rfl
  have ha : aalloc tm (.inv tbl x args) = none := rfl
  simp only [xo_inv, aoper, acallee, hn, ha]
  generalize x.ev tm = u
  cases u <;> try rfl
  rename_i t v
  simp only
  generalize tbl.find? (fun p => p.1 == t) = r
  cases r with
  | none => rfl
  | some p => rfl

/-! ## Numbers -/

theorem wrap_i64 (n : Int) (h : -9223372036854775808 ≤ n) (h2 : n ≤ 9223372036854775807) : IntKind.i64.wrap n = n := IntWalk.i64_in n ⟨h, h2⟩
theorem wrap_u64 (n : Int) (h : 0 ≤ n) (h2 : n ≤ 18446744073709551615) : IntKind.u64.wrap n = n := IntWalk.u64_in n ⟨h, h2⟩
theorem wrap_u32 (n : Int) (h : 0 ≤ n) (h2 : n ≤ 4294967295) : IntKind.u32.wrap n = n := IntWalk.u32_in n ⟨h, h2⟩
theorem wrap_u8 (n : Int) (h : 0 ≤ n) (h2 : n ≤ 255) : IntKind.u8.wrap n = n := IntWalk.u8_in n ⟨h, h2⟩

theorem dec_lt_t (a b : Int) (h : a < b) : decide (a < b) = true := by simpa using h
theorem dec_lt_f (a b : Int) (h : b ≤ a) : decide (a < b) = false := by simpa using h
theorem dec_le_t (a b : Int) (h : a ≤ b) : decide (a ≤ b) = true := by simpa using h
theorem dec_le_f (a b : Int) (h : b < a) : decide (a ≤ b) = false := by simpa using h
theorem dec_eq_t (a b : Int) (h : a = b) : decide (a = b) = true := by simpa using h
theorem dec_eq_f (a b : Int) (h : a ≠ b) : decide (a = b) = false := by simpa using h
theorem dec_ne_t (a b : Int) (h : a ≠ b) : decide (a ≠ b) = true := by simpa using h
theorem dec_ne_f (a b : Int) (h : a = b) : decide (a ≠ b) = false := by simpa using h

end
end Go.Ai

/- A region that draws its order, as a rewriting. -/
import Derived.Test.YtcjfijmbdoiaiaaGreatDoorRbAi30
set_option linter.unusedSimpArgs false
set_option linter.unusedVariables false
namespace Go.Ai

def bitAt (m k : Nat) : Bool := decide (m / 2 ^ k % 2 = 1)
theorem testBit_bitAt (m k : Nat) : m.testBit k = bitAt m k := by
  rw [Nat.testBit_eq_decide_div_mod_eq]; rfl

/-- A read that was done: its place, what is ordered ahead of it, slots, operation, answer. -/
structure RRec where
  p : Nat
  bf : Nat
  tm : Tm
  op : AOp
  v : AV

/-- A write that was done: the heap ahead of it and behind it. -/
structure WRec where
  q : Nat
  bf : Nat
  h : AS
  h' : AS

def sameV (x : Option (AV × AS)) (v : AV) : Bool := match x with
  | some (u, _) => decide (u = v)
  | none => false
theorem sameV_some (v : AV) (s : AS) : sameV (some (v, s)) v = true := by simp [sameV]

def rwOk (r : RRec) (x : WRec) : Bool :=
  if x.q < r.p then bitAt r.bf x.q || sameV (aop r.tm x.h r.op) r.v
  else if r.p < x.q then bitAt x.bf r.p || sameV (aop r.tm x.h' r.op) r.v
  else true

def rdsOf : Nat → List DRec → List RRec
  | _, [] => []
  | p, r :: l => if r.want && r.op.op.kind == .read then ⟨p, r.bf, r.tm, r.op.op, r.v⟩ :: rdsOf (p + 1) l else rdsOf (p + 1) l
def wrsOf : Nat → List DRec → List WRec
  | _, [] => []
  | p, r :: l => if r.want && r.op.op.kind == .write then ⟨p, r.bf, r.h, r.h'⟩ :: wrsOf (p + 1) l else wrsOf (p + 1) l

theorem dcheck1_eq (p : Nat) (r : DRec) : ∀ (q : Nat) (l : List DRec), dcheck1 p r q l = (wrsOf q l).all (rwOk ⟨p, r.bf, r.tm, r.op.op, r.v⟩)
  | _, [] => rfl
  | q, x :: l => by
    simp only [dcheck1, wrsOf, dcheck1_eq p r (q + 1) l]
    cases h : (x.want && x.op.op.kind == .write) with
    | false => simp
    | true =>
      simp only [if_true, List.all_cons, rwOk, DRec.reads, sameV, ← testBit_bitAt]
      rfl

theorem dcheck_eq (all : List DRec) : ∀ (p : Nat) (l : List DRec), dcheck all p l = (rdsOf p l).all fun r => (wrsOf 0 all).all (rwOk r)
  | _, [] => rfl
  | p, r :: l => by
    simp only [dcheck, rdsOf, dcheck_eq all (p + 1) l, dcheck1_eq]
    cases h : (r.want && r.op.op.kind == .read) with
    | false => simp
    | true => simp only [if_true, List.all_cons]

/-- The pairs that are to be looked at, as they come. -/
def chkR (r : RRec) (ws : List WRec) : Bool := ws.all (rwOk r)
def chkW (x : WRec) (rs : List RRec) : Bool := rs.all fun r => rwOk r x

def AS.bump (s : AS) (n : Nat) : AS := ⟨s.hp, s.nx + n⟩

/-- Behind what was drawn: rs, ws: the reads and writes till now. -/
def wpD (call : ACall) (N base p : Nat) (l : List (AOper × Nat)) (tm : Tm) (h : AS) (pend : List (Nat × ABlk)) (rs : List RRec) (ws : List WRec) (fs : List Fr) (Q : AE → Tm → AS → Prop) : Prop :=
  match dpass call base p l tm h pend with
  | some (recs, tm', h', pend') => ((rs ++ rdsOf p recs).all fun r => (ws ++ wrsOf p recs).all (rwOk r)) = true ∧ wpK call N fs tm' (absorb base pend' h') Q
  | none => False

section
variable {call : ACall} {N base p : Nat} {tm : Tm} {s h : AS} {pend : List (Nat × ABlk)} {rs : List RRec} {ws : List WRec} {fs : List Fr} {Q : AE → Tm → AS → Prop} {l : List (AOper × Nat)}

theorem wpK_draw (ops : List AOper) (bef : List Nat) : wpD call N s.nx 0 (ops.zip bef) tm (s.bump ops.length) [] [] [] fs Q → wpK call N (.code (.draw ops bef) :: fs) tm s Q := by
  intro hw
  unfold wpD at hw
  unfold wpK
  simp only [krun, aexec, adraw]
  have e : (⟨s.hp, s.nx + ops.length⟩ : AS) = s.bump ops.length := rfl
  rw [e]
  cases hd : dpass call s.nx 0 (ops.zip bef) tm (s.bump ops.length) [] with
  | none => rw [hd] at hw; exact hw
  | some x =>
    obtain ⟨recs, tm', h', pend'⟩ := x
    rw [hd] at hw
    simp only [List.nil_append] at hw
    simp only
    rw [dcheck_eq, hw.1, if_pos rfl]
    exact hw.2

theorem wpD_nil : wpD call N base p [] tm h pend rs ws fs Q = ((rs.all fun r => ws.all (rwOk r)) = true ∧ wpK call N fs tm (absorb base pend h) Q) := by
  simp [wpD, dpass, rdsOf, wrsOf]

/-- Behind a drawn operation, by its kind. -/
def wpDA (call : ACall) (N base p : Nat) (x : Option (ABlk × (Nat → AV))) (d : Option Nat) (l : List (AOper × Nat)) (tm : Tm) (h : AS) (pend : List (Nat × ABlk)) (rs : List RRec) (ws : List WRec) (fs : List Fr) (Q : AE → Tm → AS → Prop) : Prop := match x with
  | some (blk, mk) => wpD call N base (p + 1) l (tm.put d (mk (base + p))) h (pend ++ [(p, blk)]) rs ws fs Q
  | none => False
def wpDP (call : ACall) (N base p : Nat) (x : Option (AV × AS)) (d : Option Nat) (l : List (AOper × Nat)) (tm : Tm) (h : AS) (pend : List (Nat × ABlk)) (rs : List RRec) (ws : List WRec) (fs : List Fr) (Q : AE → Tm → AS → Prop) : Prop := match x with
  | some (v, _) => wpD call N base (p + 1) l (tm.put d v) h pend rs ws fs Q
  | none => False
def wpDR (call : ACall) (N base p bf : Nat) (x : Option (AV × AS)) (d : Option Nat) (op : AOp) (l : List (AOper × Nat)) (tm : Tm) (h : AS) (pend : List (Nat × ABlk)) (rs : List RRec) (ws : List WRec) (fs : List Fr) (Q : AE → Tm → AS → Prop) : Prop := match x with
  | some (v, _) => wpD call N base (p + 1) l (tm.put d v) h pend (rs ++ [⟨p, bf, tm, op, v⟩]) ws fs Q
  | none => False
def wpDW (call : ACall) (N base p bf : Nat) (x : Option (AV × AS)) (d : Option Nat) (l : List (AOper × Nat)) (tm : Tm) (h : AS) (pend : List (Nat × ABlk)) (rs : List RRec) (ws : List WRec) (fs : List Fr) (Q : AE → Tm → AS → Prop) : Prop := match x with
  | some (v, h') => wpD call N base (p + 1) l (tm.put d v) h' (pend.filter fun x => !bitAt bf x.1) rs (ws ++ [⟨p, bf, h, h'⟩]) fs Q
  | none => False

theorem wpDA_some (blk : ABlk) (mk : Nat → AV) (d : Option Nat) : wpDA call N base p (some (blk, mk)) d l tm h pend rs ws fs Q = wpD call N base (p + 1) l (tm.put d (mk (base + p))) h (pend ++ [(p, blk)]) rs ws fs Q := rfl
theorem wpDP_some (v : AV) (s' : AS) (d : Option Nat) : wpDP call N base p (some (v, s')) d l tm h pend rs ws fs Q = wpD call N base (p + 1) l (tm.put d v) h pend rs ws fs Q := rfl
theorem wpDR_some (bf : Nat) (v : AV) (s' : AS) (d : Option Nat) (op : AOp) : wpDR call N base p bf (some (v, s')) d op l tm h pend rs ws fs Q = wpD call N base (p + 1) l (tm.put d v) h pend (rs ++ [⟨p, bf, tm, op, v⟩]) ws fs Q := rfl
theorem wpDW_some (bf : Nat) (v : AV) (h' : AS) (d : Option Nat) : wpDW call N base p bf (some (v, h')) d l tm h pend rs ws fs Q = wpD call N base (p + 1) l (tm.put d v) h' (pend.filter fun x => !bitAt bf x.1) rs (ws ++ [⟨p, bf, h, h'⟩]) fs Q := rfl

/-- A drawn operation. -/
def wpDk (k : OK4) (call : ACall) (N base p bf : Nat) (d : Option Nat) (op : AOp) (l : List (AOper × Nat)) (tm : Tm) (h : AS) (pend : List (Nat × ABlk)) (rs : List RRec) (ws : List WRec) (fs : List Fr) (Q : AE → Tm → AS → Prop) : Prop := match k with
  | .alloc => wpDA call N base p (aalloc tm op) d l tm h pend rs ws fs Q
  | .write => wpDW call N base p bf (aoper call tm (absorb base (pend.filter fun x => bitAt bf x.1) h) op) d l tm h pend rs ws fs Q
  | .read => wpDR call N base p bf (aoper call tm h op) d op l tm h pend rs ws fs Q
  | .pure => wpDP call N base p (aoper call tm h op) d l tm h pend rs ws fs Q

theorem aoper_read {op : AOp} (hk : op.kind = .read ∨ op.kind = .pure) : aoper call tm h op = aop tm h op := by
  cases op <;> simp [AOp.kind] at hk <;> rfl

theorem filter_tb (bf : Nat) (pend : List (Nat × ABlk)) : (pend.filter fun x => bf.testBit x.1) = pend.filter fun x => bitAt bf x.1 := by
  congr 1; funext x; exact testBit_bitAt bf x.1
theorem filter_ntb (bf : Nat) (pend : List (Nat × ABlk)) : (pend.filter fun x => !bf.testBit x.1) = pend.filter fun x => !bitAt bf x.1 := by
  congr 1; funext x; rw [testBit_bitAt]

theorem wpD_cons (d : Option Nat) (op : AOp) (bf : Nat) : wpD call N base p ((⟨d, op, none⟩, bf) :: l) tm h pend rs ws fs Q = wpDk op.kind call N base p bf d op l tm h pend rs ws fs Q := by
  cases hk : op.kind with
  | alloc =>
    simp only [wpD, dpass, AOper.wanted, if_true, hk, wpDk]
    cases ha : aalloc tm op with
    | none => rfl
    | some x =>
      obtain ⟨blk, mk⟩ := x
      simp only [wpDA, wpD]
      cases hd : dpass call base (p + 1) l (tm.put d (mk (base + p))) h (pend ++ [(p, blk)]) with
      | none => rfl
      | some y =>
        obtain ⟨recs, tm', h', pend'⟩ := y
        simp [rdsOf, wrsOf, hk]
  | write =>
    simp only [wpD, dpass, AOper.wanted, if_true, hk, wpDk, filter_tb, filter_ntb]
    cases ha : aoper call tm (absorb base (pend.filter fun x => bitAt bf x.1) h) op with
    | none => rfl
    | some x =>
      obtain ⟨v, h1⟩ := x
      simp only [wpDW, wpD]
      cases hd : dpass call base (p + 1) l (tm.put d v) h1 (pend.filter fun x => !bitAt bf x.1) with
      | none => rfl
      | some y =>
        obtain ⟨recs, tm', h', pend'⟩ := y
        simp [rdsOf, wrsOf, hk]
  | read =>
    have he : aoper call tm h op = aop tm h op := aoper_read (.inl hk)
    simp only [wpD, dpass, AOper.wanted, if_true, hk, wpDk, he]
    cases ha : aop tm h op with
    | none => rfl
    | some x =>
      obtain ⟨v, h1⟩ := x
      simp only [wpDR, wpD]
      cases hd : dpass call base (p + 1) l (tm.put d v) h pend with
      | none => rfl
      | some y =>
        obtain ⟨recs, tm', h', pend'⟩ := y
        simp [rdsOf, wrsOf, hk]
  | pure =>
    have he : aoper call tm h op = aop tm h op := aoper_read (.inr hk)
    simp only [wpD, dpass, AOper.wanted, if_true, hk, wpDk, he]
    cases ha : aop tm h op with
    | none => rfl
    | some x =>
      obtain ⟨v, h1⟩ := x
      simp only [wpDP, wpD]
      cases hd : dpass call base (p + 1) l (tm.put d v) h pend with
      | none => rfl
      | some y =>
        obtain ⟨recs, tm', h', pend'⟩ := y
        simp [rdsOf, wrsOf, hk]

/-- A guarded one. -/
def wpDG (v : AV) (want : Bool) (call : ACall) (N base p bf : Nat) (d : Option Nat) (op : AOp) (l : List (AOper × Nat)) (tm : Tm) (h : AS) (pend : List (Nat × ABlk)) (rs : List RRec) (ws : List WRec) (fs : List Fr) (Q : AE → Tm → AS → Prop) : Prop := match v with
  | .bool b => if b = want then wpDk op.kind call N base p bf d op l tm h pend rs ws fs Q else wpD call N base (p + 1) l (tm.put d AV.undef) h pend rs ws fs Q
  | _ => wpD call N base (p + 1) l (tm.put d AV.undef) h pend rs ws fs Q

theorem wpDG_tt (bf : Nat) (d : Option Nat) (op : AOp) : wpDG (.bool true) true call N base p bf d op l tm h pend rs ws fs Q = wpDk op.kind call N base p bf d op l tm h pend rs ws fs Q := rfl
theorem wpDG_ff (bf : Nat) (d : Option Nat) (op : AOp) : wpDG (.bool false) false call N base p bf d op l tm h pend rs ws fs Q = wpDk op.kind call N base p bf d op l tm h pend rs ws fs Q := rfl
theorem wpDG_tf (bf : Nat) (d : Option Nat) (op : AOp) : wpDG (.bool true) false call N base p bf d op l tm h pend rs ws fs Q = wpD call N base (p + 1) l (tm.put d AV.undef) h pend rs ws fs Q := rfl
theorem wpDG_ft (bf : Nat) (d : Option Nat) (op : AOp) : wpDG (.bool false) true call N base p bf d op l tm h pend rs ws fs Q = wpD call N base (p + 1) l (tm.put d AV.undef) h pend rs ws fs Q := rfl

theorem wpD_guard (d : Option Nat) (op : AOp) (g : Nat) (want : Bool) (bf : Nat) : wpD call N base p ((⟨d, op, some (g, want)⟩, bf) :: l) tm h pend rs ws fs Q = wpDG (tm.at g) want call N base p bf d op l tm h pend rs ws fs Q := by
  have hw0 : ∀ v, tm.at g = v → (⟨d, op, some (g, want)⟩ : AOper).wanted tm = (match v with | .bool b => b == want | _ => false) := by
    rintro _ rfl; rfl
  generalize hv : tm.at g = v
  have hw := hw0 v hv
  have no : (⟨d, op, some (g, want)⟩ : AOper).wanted tm = false → wpD call N base p ((⟨d, op, some (g, want)⟩, bf) :: l) tm h pend rs ws fs Q = wpD call N base (p + 1) l (tm.put d AV.undef) h pend rs ws fs Q := fun hf => by
    simp only [wpD, dpass, hf, Bool.false_eq_true, if_false]
    cases hd : dpass call base (p + 1) l (tm.put d AV.undef) h pend with
    | none => rfl
    | some y =>
      obtain ⟨recs, tm', h', pend'⟩ := y
      simp [rdsOf, wrsOf]
  cases v with
  | bool b =>
    by_cases hb : b = want
    · have ht : (⟨d, op, some (g, want)⟩ : AOper).wanted tm = true := by rw [hw]; simp [hb]
      simp only [wpDG, hb, if_true, ← wpD_cons]
      simp only [wpD, dpass, ht, if_true]
      have h0 : (⟨d, op, none⟩ : AOper).wanted tm = true := rfl
      simp only [h0, if_true]
      cases hk : op.kind with
      | alloc =>
        simp only
        cases ha : aalloc tm op with
        | none => rfl
        | some x =>
          obtain ⟨blk, mk⟩ := x
          simp only
          cases hd : dpass call base (p + 1) l (tm.put d (mk (base + p))) h (pend ++ [(p, blk)]) with
          | none => rfl
          | some y => obtain ⟨recs, tm', h', pend'⟩ := y; simp [rdsOf, wrsOf, hk]
      | write =>
        simp only
        cases ha : aoper call tm (absorb base (pend.filter fun x => bf.testBit x.1) h) op with
        | none => rfl
        | some x =>
          obtain ⟨v, h1⟩ := x
          simp only
          cases hd : dpass call base (p + 1) l (tm.put d v) h1 (pend.filter fun x => !bf.testBit x.1) with
          | none => rfl
          | some y => obtain ⟨recs, tm', h', pend'⟩ := y; simp [rdsOf, wrsOf, hk]
      | read =>
        simp only
        cases ha : aop tm h op with
        | none => rfl
        | some x =>
          obtain ⟨v, h1⟩ := x
          simp only
          cases hd : dpass call base (p + 1) l (tm.put d v) h pend with
          | none => rfl
          | some y => obtain ⟨recs, tm', h', pend'⟩ := y; simp [rdsOf, wrsOf, hk]
      | pure =>
        simp only
        cases ha : aop tm h op with
        | none => rfl
        | some x =>
          obtain ⟨v, h1⟩ := x
          simp only
          cases hd : dpass call base (p + 1) l (tm.put d v) h pend with
          | none => rfl
          | some y => obtain ⟨recs, tm', h', pend'⟩ := y; simp [rdsOf, wrsOf, hk]
    · have hf : (⟨d, op, some (g, want)⟩ : AOper).wanted tm = false := by rw [hw]; simpa using hb
      rw [no hf]
      simp only [wpDG, hb, if_false]
  | _ =>
    have hf : (⟨d, op, some (g, want)⟩ : AOper).wanted tm = false := by rw [hw]
    rw [no hf]
    rfl

theorem aalloc_alloc (z : List AV) (esz : Nat) (el : TypeId) : aalloc tm (.alloc z esz el) = some (.cells z esz true false (some el), fun e => .ptr (some (e, 0))) := rfl
theorem aalloc_box (x : AX) (esz : Nat) : aalloc tm (.box x esz) = some (.cells (x.ev tm).cells esz true false none, fun e => .ptr (some (e, 0))) := rfl
theorem aalloc_buildSl (z : List AV) (len esz : Nat) (ps : List (Nat × Nat × AX)) : aalloc tm (.buildSl z len esz ps) = (fillX tm z ps).map fun cs => (.cells cs esz true false none, fun e => .slice (some (e, 0)) len len) := rfl
theorem aalloc_mkM : aalloc tm .mkM = some (.map [], fun e => .map (some e)) := rfl
def aallocS2b (v : AV) : Option (ABlk × (Nat → AV)) := match v with
  | .str t => if t.length < 70368744177664 then some (.cells (t.map fun b => AV.int .u8 b.toNat) 1 false false none, fun e => .slice (some (e, 0)) t.length t.length) else none
  | _ => none
theorem aalloc_s2b (x : AX) : aalloc tm (.s2b x) = aallocS2b (x.ev tm) := rfl
theorem aallocS2b_str (t : List UInt8) (h : t.length < 70368744177664) : aallocS2b (.str t) = some (.cells (t.map fun b => AV.int .u8 b.toNat) 1 false false none, fun e => .slice (some (e, 0)) t.length t.length) := by
  simp [aallocS2b, h]
theorem absorb_nil (h : AS) : absorb base [] h = h := rfl
theorem absorb_cons (q : Nat) (b : ABlk) (l : List (Nat × ABlk)) (h : AS) : absorb base ((q, b) :: l) h = absorb base l (h.put (base + q) b) := rfl
theorem get_bump (s : AS) (n b : Nat) : (s.bump n).get b = s.get b := rfl
theorem nx_bump (s : AS) (n : Nat) : (s.bump n).nx = s.nx + n := rfl
theorem all_nil' {α : Type} (f : α → Bool) : ([] : List α).all f = true := rfl

/-- A read's answer, again. -/
theorem aop_aoper (call : ACall) (op : AOp) (hk : op.kind = .read) (h : AS) : aop tm h op = aoper call tm h op := (aoper_read (.inl hk)).symm

theorem rwOk_w (p bf : Nat) (t : Tm) (op : AOp) (v : AV) (q bx : Nat) (h h' : AS) (hq : q < p) : rwOk ⟨p, bf, t, op, v⟩ ⟨q, bx, h, h'⟩ = (bitAt bf q || sameV (aop t h op) v) := by simp [rwOk, hq]
theorem rwOk_r (p bf : Nat) (t : Tm) (op : AOp) (v : AV) (q bx : Nat) (h h' : AS) (hq : p < q) : rwOk ⟨p, bf, t, op, v⟩ ⟨q, bx, h, h'⟩ = (bitAt bx p || sameV (aop t h' op) v) := by
  have : ¬ q < p := by omega
  simp [rwOk, hq, this]

end

theorem kind_mov (x : AX) : (AOp.mov x).kind = .pure := rfl
theorem kind_pick (a b c : AX) : (AOp.pick a b c).kind = .pure := rfl
theorem kind_build (z : List AV) (ps : List (Nat × Nat × AX)) : (AOp.build z ps).kind = .pure := rfl
theorem kind_nilck (x : AX) : (AOp.nilck x).kind = .pure := rfl
theorem kind_nilckM (n : String) (t : List (TypeId × FuncId)) (x : AX) : (AOp.nilckM n t x).kind = .pure := rfl
theorem kind_ibin (o : BinOp) (x y : AX) : (AOp.ibin o x y).kind = .pure := rfl
theorem kind_sbin (o : BinOp) (x y : AX) : (AOp.sbin o x y).kind = .pure := rfl
theorem kind_bbin (o : Bool) (x y : AX) : (AOp.bbin o x y).kind = .pure := rfl
theorem kind_nileq (k : NK) (o : Bool) (x y : AX) : (AOp.nileq k o x y).kind = .pure := rfl
theorem kind_aggeq (o : Bool) (k : List KK) (x y : AX) : (AOp.aggeq o k x y).kind = .pure := rfl
theorem kind_un (o : UnOp) (x : AX) : (AOp.un o x).kind = .pure := rfl
theorem kind_conv (k : IntKind) (x : AX) : (AOp.conv k x).kind = .pure := rfl
theorem kind_smov (x : AX) : (AOp.smov x).kind = .pure := rfl
theorem kind_mkI (t : TypeId) (x : AX) : (AOp.mkI t x).kind = .pure := rfl
theorem kind_mkF (f : Fn) (a b : List AX) : (AOp.mkF f a b).kind = .pure := rfl
theorem kind_slS (x : AX) (a b : Option AX) : (AOp.slS x a b).kind = .pure := rfl
theorem kind_slA (n e : Nat) (x : AX) (a b c : Option AX) : (AOp.slA n e x a b c).kind = .pure := rfl
theorem kind_fadr (n : Nat) (x : AX) : (AOp.fadr n x).kind = .pure := rfl
theorem kind_fld (g : Bool) (n m : Nat) (x : AX) : (AOp.fld g n m x).kind = .pure := rfl
theorem kind_iadrA (n e : Nat) (x i : AX) : (AOp.iadrA n e x i).kind = .pure := rfl
theorem kind_iadrS (e : Nat) (x i : AX) : (AOp.iadrS e x i).kind = .pure := rfl
theorem kind_ixA (n : Nat) (g : Bool) (e : Nat) (x i : AX) : (AOp.ixA n g e x i).kind = .pure := rfl
theorem kind_ixS (x i : AX) : (AOp.ixS x i).kind = .pure := rfl
theorem kind_extr (x : AX) (i : Nat) : (AOp.extr x i).kind = .pure := rfl
theorem kind_lenC (n : Nat) : (AOp.lenC n).kind = .pure := rfl
theorem kind_mnmx (m : Bool) (x : AX) (l : List AX) : (AOp.mnmx m x l).kind = .pure := rfl
theorem kind_usd (x : AX) : (AOp.usd x).kind = .pure := rfl
theorem kind_alloc (z : List AV) (n : Nat) (e : TypeId) : (AOp.alloc z n e).kind = .alloc := rfl
theorem kind_box (x : AX) (n : Nat) : (AOp.box x n).kind = .alloc := rfl
theorem kind_buildSl (z : List AV) (l e : Nat) (ps : List (Nat × Nat × AX)) : (AOp.buildSl z l e ps).kind = .alloc := rfl
theorem kind_s2b (x : AX) : (AOp.s2b x).kind = .alloc := rfl
theorem kind_mkM  : (AOp.mkM ).kind = .alloc := rfl
theorem kind_mkS (z : List AV) (e b : Nat) (l c : AX) : (AOp.mkS z e b l c).kind = .alloc := rfl
theorem kind_load (g : Bool) (n : Nat) (a : AX) : (AOp.load g n a).kind = .read := rfl
theorem kind_slV (e : Nat) (x : AX) (a b c : Option AX) : (AOp.slV e x a b c).kind = .read := rfl
theorem kind_cap (x : AX) : (AOp.cap x).kind = .read := rfl
theorem kind_len (k : LK) (x : AX) : (AOp.len k x).kind = .read := rfl
theorem kind_look (k : KK) (z : AV) (o : Bool) (m x : AX) : (AOp.look k z o m x).kind = .read := rfl
theorem kind_b2s (x : AX) : (AOp.b2s x).kind = .read := rfl
theorem kind_store (n : Nat) (a x : AX) : (AOp.store n a x).kind = .write := rfl
theorem kind_mupd (k : KK) (m x y : AX) : (AOp.mupd k m x y).kind = .write := rfl
theorem kind_app (a b : Nat) (e : TypeId) (s x : AX) : (AOp.app a b e s x).kind = .write := rfl
theorem kind_copy (e : Nat) (d s : AX) : (AOp.copy e d s).kind = .write := rfl
theorem kind_clrM (m : AX) : (AOp.clrM m).kind = .write := rfl
theorem kind_clrS (z : List AV) (s : AX) : (AOp.clrS z s).kind = .write := rfl
theorem kind_del (k : KK) (m x : AX) : (AOp.del k m x).kind = .write := rfl
theorem kind_ustr (e : TypeId) (p n : AX) : (AOp.ustr e p n).kind = .write := rfl
theorem kind_call (f : FuncId) (l : List AX) : (AOp.call f l).kind = .write := rfl
theorem kind_callV (x : AX) (l : List AX) : (AOp.callV x l).kind = .write := rfl
theorem kind_inv (t : List (TypeId × FuncId)) (x : AX) (l : List AX) : (AOp.inv t x l).kind = .write := rfl
theorem aop_load (tm : Tm) (s : AS) (g : Bool) (n : Nat) (a : AX) : aop tm s (.load g n a) = xo_load g n (a.ev tm) s := aoper_load (call := fun _ _ _ => none) g n a
theorem aop_slV (tm : Tm) (s : AS) (e : Nat) (x : AX) (a b c : Option AX) : aop tm s (.slV e x a b c) = xo_slV e (x.ev tm) (a.map (AX.ev tm)) (b.map (AX.ev tm)) (c.map (AX.ev tm)) s := aoper_slV (call := fun _ _ _ => none) e x a b c
theorem aop_cap (tm : Tm) (s : AS) (x : AX) : aop tm s (.cap x) = xo_cap (x.ev tm) s := aoper_cap (call := fun _ _ _ => none) x
theorem aop_len (tm : Tm) (s : AS) (k : LK) (x : AX) : aop tm s (.len k x) = xo_len k (x.ev tm) s := aoper_len (call := fun _ _ _ => none) k x
theorem aop_look (tm : Tm) (s : AS) (k : KK) (z : AV) (o : Bool) (m x : AX) : aop tm s (.look k z o m x) = xo_look k z o (m.ev tm) (x.ev tm) s := aoper_look (call := fun _ _ _ => none) k z o m x
theorem aop_b2s (tm : Tm) (s : AS) (x : AX) : aop tm s (.b2s x) = xo_b2s (x.ev tm) s := aoper_b2s (call := fun _ _ _ => none) x
end Go.Ai

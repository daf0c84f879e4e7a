/- The abstract interpreter: regions that draw, code, functions, calls. Definitions alone. -/
import Derived.Test.YtcjfijmbdoiaiaaGreatDoorRbAi15
set_option linter.unusedSimpArgs false
set_option linter.unusedVariables false
namespace Go.Ai

mutual
def AV.dec : (x y : AV) → Decidable (x = y)
  | .bool a, .bool b => if h : a = b then isTrue (by rw [h]) else isFalse (fun e => h (by cases e; rfl))
  | .int k a, .int k' b => if h : k = k' ∧ a = b then isTrue (by rw [h.1, h.2]) else isFalse (fun e => h (by cases e; exact ⟨rfl, rfl⟩))
  | .str a, .str b => if h : a = b then isTrue (by rw [h]) else isFalse (fun e => h (by cases e; rfl))
  | .ptr a, .ptr b => if h : a = b then isTrue (by rw [h]) else isFalse (fun e => h (by cases e; rfl))
  | .slice a l c, .slice b m d => if h : a = b ∧ l = m ∧ c = d then isTrue (by rw [h.1, h.2.1, h.2.2]) else isFalse (fun e => h (by cases e; exact ⟨rfl, rfl, rfl⟩))
  | .map a, .map b => if h : a = b then isTrue (by rw [h]) else isFalse (fun e => h (by cases e; rfl))
  | .func f a c, .func g b d =>
    if h : f = g then
      match AV.decs a b with
      | isTrue h1 =>
        match AV.decs c d with
        | isTrue h2 => isTrue (by rw [h, h1, h2])
        | isFalse h2 => isFalse (fun e => h2 (by cases e; rfl))
      | isFalse h1 => isFalse (fun e => h1 (by cases e; rfl))
    else isFalse (fun e => h (by cases e; rfl))
  | .nilFunc, .nilFunc => isTrue rfl
  | .iface t v, .iface u w =>
    if h : t = u then
      match AV.dec v w with
      | isTrue h1 => isTrue (by rw [h, h1])
      | isFalse h1 => isFalse (fun e => h1 (by cases e; rfl))
    else isFalse (fun e => h (by cases e; rfl))
  | .nilIface, .nilIface => isTrue rfl
  | .agg a, .agg b =>
    match AV.decs a b with
    | isTrue h => isTrue (by rw [h])
    | isFalse h => isFalse (fun e => h (by cases e; rfl))
  | .tuple a, .tuple b =>
    match AV.decs a b with
    | isTrue h => isTrue (by rw [h])
    | isFalse h => isFalse (fun e => h (by cases e; rfl))
  | .bool _, .int .. | .bool _, .str _ | .bool _, .ptr _ | .bool _, .slice .. | .bool _, .map _ | .bool _, .func .. | .bool _, .nilFunc | .bool _, .iface .. | .bool _, .nilIface | .bool _, .agg _ | .bool _, .tuple _ => isFalse (fun e => by cases e)
  | .int .., .bool _ | .int .., .str _ | .int .., .ptr _ | .int .., .slice .. | .int .., .map _ | .int .., .func .. | .int .., .nilFunc | .int .., .iface .. | .int .., .nilIface | .int .., .agg _ | .int .., .tuple _ => isFalse (fun e => by cases e)
  | .str _, .bool _ | .str _, .int .. | .str _, .ptr _ | .str _, .slice .. | .str _, .map _ | .str _, .func .. | .str _, .nilFunc | .str _, .iface .. | .str _, .nilIface | .str _, .agg _ | .str _, .tuple _ => isFalse (fun e => by cases e)
  | .ptr _, .bool _ | .ptr _, .int .. | .ptr _, .str _ | .ptr _, .slice .. | .ptr _, .map _ | .ptr _, .func .. | .ptr _, .nilFunc | .ptr _, .iface .. | .ptr _, .nilIface | .ptr _, .agg _ | .ptr _, .tuple _ => isFalse (fun e => by cases e)
  | .slice .., .bool _ | .slice .., .int .. | .slice .., .str _ | .slice .., .ptr _ | .slice .., .map _ | .slice .., .func .. | .slice .., .nilFunc | .slice .., .iface .. | .slice .., .nilIface | .slice .., .agg _ | .slice .., .tuple _ => isFalse (fun e => by cases e)
  | .map _, .bool _ | .map _, .int .. | .map _, .str _ | .map _, .ptr _ | .map _, .slice .. | .map _, .func .. | .map _, .nilFunc | .map _, .iface .. | .map _, .nilIface | .map _, .agg _ | .map _, .tuple _ => isFalse (fun e => by cases e)
  | .func .., .bool _ | .func .., .int .. | .func .., .str _ | .func .., .ptr _ | .func .., .slice .. | .func .., .map _ | .func .., .nilFunc | .func .., .iface .. | .func .., .nilIface | .func .., .agg _ | .func .., .tuple _ => isFalse (fun e => by cases e)
  | .nilFunc, .bool _ | .nilFunc, .int .. | .nilFunc, .str _ | .nilFunc, .ptr _ | .nilFunc, .slice .. | .nilFunc, .map _ | .nilFunc, .func .. | .nilFunc, .iface .. | .nilFunc, .nilIface | .nilFunc, .agg _ | .nilFunc, .tuple _ => isFalse (fun e => by cases e)
  | .iface .., .bool _ | .iface .., .int .. | .iface .., .str _ | .iface .., .ptr _ | .iface .., .slice .. | .iface .., .map _ | .iface .., .func .. | .iface .., .nilFunc | .iface .., .nilIface | .iface .., .agg _ | .iface .., .tuple _ => isFalse (fun e => by cases e)
  | .nilIface, .bool _ | .nilIface, .int .. | .nilIface, .str _ | .nilIface, .ptr _ | .nilIface, .slice .. | .nilIface, .map _ | .nilIface, .func .. | .nilIface, .nilFunc | .nilIface, .iface .. | .nilIface, .agg _ | .nilIface, .tuple _ => isFalse (fun e => by cases e)
  | .agg _, .bool _ | .agg _, .int .. | .agg _, .str _ | .agg _, .ptr _ | .agg _, .slice .. | .agg _, .map _ | .agg _, .func .. | .agg _, .nilFunc | .agg _, .iface .. | .agg _, .nilIface | .agg _, .tuple _ => isFalse (fun e => by cases e)
  | .tuple _, .bool _ | .tuple _, .int .. | .tuple _, .str _ | .tuple _, .ptr _ | .tuple _, .slice .. | .tuple _, .map _ | .tuple _, .func .. | .tuple _, .nilFunc | .tuple _, .iface .. | .tuple _, .nilIface | .tuple _, .agg _ => isFalse (fun e => by cases e)
def AV.decs : (l m : List AV) → Decidable (l = m)
  | [], [] => isTrue rfl
  | [], _ :: _ => isFalse (fun e => by cases e)
  | _ :: _, [] => isFalse (fun e => by cases e)
  | x :: l, y :: m =>
    match AV.dec x y with
    | isTrue h =>
      match AV.decs l m with
      | isTrue h1 => isTrue (by rw [h, h1])
      | isFalse h1 => isFalse (fun e => h1 (by cases e; rfl))
    | isFalse h => isFalse (fun e => h (by cases e; rfl))
end

instance : DecidableEq AV := AV.dec

/-! ## A region that draws its order -/

/-- What an operation of a drawn region did, in the order of the text. -/
structure DRec where
  op : AOper
  bf : Nat
  tm : Tm
  want : Bool
  v : AV
  al : Option ABlk
  h : AS
  h' : AS

/-- New blocks laid into the heap. -/
def absorb (base : Nat) : List (Nat × ABlk) → AS → AS
  | [], h => h
  | (p, b) :: l, h => absorb base l ⟨h.hp.set (base + p) (some b), h.nx⟩

def dpass (call : ACall) (base : Nat) : Nat → List (AOper × Nat) → Tm → AS → List (Nat × ABlk) → Option (List DRec × Tm × AS × List (Nat × ABlk))
  | _, [], tm, h, pend => some ([], tm, h, pend)
  | p, (o, bf) :: r, tm, h, pend =>
    if o.wanted tm then
      match o.op.kind with
      | .alloc =>
        match aalloc tm o.op with
        | some (blk, mk) =>
          match dpass call base (p + 1) r (tm.put o.dst (mk (base + p))) h (pend ++ [(p, blk)]) with
          | some (l, x) => some (⟨o, bf, tm, true, mk (base + p), some blk, h, h⟩ :: l, x)
          | none => none
        | none => none
      | .write =>
        match aoper call tm (absorb base (pend.filter fun x => bf.testBit x.1) h) o.op with
        | some (v, h') =>
          match dpass call base (p + 1) r (tm.put o.dst v) h' (pend.filter fun x => !bf.testBit x.1) with
          | some (l, x) => some (⟨o, bf, tm, true, v, none, h, h'⟩ :: l, x)
          | none => none
        | none => none
      | _ =>
        match aop tm h o.op with
        | some (v, _) =>
          match dpass call base (p + 1) r (tm.put o.dst v) h pend with
          | some (l, x) => some (⟨o, bf, tm, true, v, none, h, h⟩ :: l, x)
          | none => none
        | none => none
    else
      match dpass call base (p + 1) r (tm.put o.dst AV.undef) h pend with
      | some (l, x) => some (⟨o, bf, tm, false, AV.undef, none, h, h⟩ :: l, x)
      | none => none

/-- Does a read answer the same in a heap? -/
def DRec.reads (r : DRec) (h : AS) : Bool :=
  match aop r.tm h r.op.op with
  | some (v, _) => decide (v = r.v)
  | none => false

/-- The writes that are not ordered with a read leave what it reads. -/
def dcheck1 (p : Nat) (r : DRec) : Nat → List DRec → Bool
  | _, [] => true
  | q, x :: l =>
    (if x.want && x.op.op.kind == .write then
      if q < p then r.bf.testBit q || r.reads x.h
      else if p < q then x.bf.testBit p || r.reads x.h'
      else true
    else true) && dcheck1 p r (q + 1) l

def dcheck (all : List DRec) : Nat → List DRec → Bool
  | _, [] => true
  | p, r :: l => (if r.want && r.op.op.kind == .read then dcheck1 p r 0 all else true) && dcheck all (p + 1) l

def adraw (call : ACall) (ops : List AOper) (bef : List Nat) (tm : Tm) (s : AS) : Option (Tm × AS) :=
  match dpass call s.nx 0 (ops.zip bef) tm ⟨s.hp, s.nx + ops.length⟩ [] with
  | some (recs, tm', h, pend) => if dcheck recs 0 recs then some (tm', absorb s.nx pend h) else none
  | none => none

/-! ## Code, functions, calls -/

def aexec (call : ACall) (N : Nat) : AC → Tm → AS → Option (AE × Tm × AS)
  | .skip, tm, s => some (.normal, tm, s)
  | .region ops, tm, s =>
    match aops call ops tm s with
    | some (tm', s') => some (.normal, tm', s')
    | none => none
  | .draw ops bef, tm, s =>
    match adraw call ops bef tm s with
    | some (tm', s') => some (.normal, tm', s')
    | none => none
  | .seq a b, tm, s =>
    match aexec call N a tm s with
    | some (.normal, tm', s') => aexec call N b tm' s'
    | r => r
  | .cond c a b, tm, s =>
    match c.ev tm with
    | .bool true => aexec call N a tm s
    | .bool false => aexec call N b tm s
    | _ => none
  | .block id b, tm, s =>
    match aexec call N b tm s with
    | some (.exit id', tm', s') => if id' = id then some (.normal, tm', s') else some (.exit id', tm', s')
    | r => r
  | .loop b, tm, s => aloop (aexec call N b) N tm s
  | .exit id, tm, s => some (.exit id, tm, s)
  | .ret, tm, s => some (.ret, tm, s)
  | .bad, _, _ => none

def initTm : Nat → List AV → Tm → Tm
  | _, [], tm => tm
  | k, v :: l, tm => initTm (k + 1) l (tm.put (some k) v)

def ares (tm : Tm) (s : AS) : List AR → Option (List AV)
  | [] => some []
  | .tmp t :: l => (ares tm s l).map (tm.at t :: ·)
  | .cell c agg sz :: l =>
    match tm.at c with
    | .ptr (some (b, o)) =>
      match s.loads b o sz, ares tm s l with
      | some cs, some vs => if agg then some (.agg cs :: vs) else match cs with | [v] => some (v :: vs) | _ => none
      | _, _ => none
    | _ => none

def retV : List AV → AV
  | [v] => v
  | vs => .tuple vs

def afn (call : ACall) (N : Nat) (fn : AFn) (args : List AV) (s : AS) : Option (AV × AS) :=
  if fn.ntmps < args.length then none else
  match aexec call N fn.body (initTm 0 args .leaf) s with
  | some (.normal, tm, s') => (ares tm s' fn.res).map fun vs => (retV vs, s')
  | some (.ret, tm, s') => (ares tm s' fn.res).map fun vs => (retV vs, s')
  | _ => none

abbrev ASum := List AV → AS → Option (AV × AS)

/-- A call, by fuel: N rounds of a loop at most, functions in one another as deep as the last number says. -/
def acall (F : FuncId → Option AFn) (S : FuncId → Option ASum) (N : Nat) : Nat → ACall
  | 0 => fun _ _ _ => none
  | k + 1 => fun f args s =>
    match S f with
    | some g => g args s
    | none =>
      match F f with
      | some fn => afn (acall F S N k) N fn args s
      | none => none

end Go.Ai

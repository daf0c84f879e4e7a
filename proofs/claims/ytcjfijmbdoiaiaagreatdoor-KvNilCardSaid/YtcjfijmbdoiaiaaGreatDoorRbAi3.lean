/- How the model's code is read as the abstract interpreter's. Definitions alone. -/
import Derived.Test.YtcjfijmbdoiaiaaGreatDoorRbAi2
set_option linter.unusedSimpArgs false
set_option linter.unusedVariables false
namespace Go.Ai

def ofV : Nat → Value → Option AV
  | 0, _ => none
  | n + 1, v =>
    match v with
    | .bool b => some (.bool b)
    | .int k m => some (.int k m)
    | .string s => some (.str s.data.toList)
    | .pointer none => some (.ptr none)
    | .slice none 0 0 => some (.slice none 0 0)
    | .map none => some (.map none)
    | .nilFunc => some .nilFunc
    | .nilIface => some .nilIface
    | .agg cs => (cs.toList.mapM (ofV n)).map .agg
    | .tuple cs => (cs.toList.mapM (ofV n)).map .tuple
    | _ => none

def cx (P : Program) : Operand → Option AX
  | .tmp t => some (.tmp t)
  | .const v => (ofV 4 v).map .const
  | .global g => if g < P.globals.size then some (.const (.ptr (some (g, 0)))) else none
  | .func f => some (.const (.func (.func f) [] []))

def cxs (P : Program) (xs : Array Operand) : Option (List AX) := xs.toList.mapM (cx P)

def cxo (P : Program) : Option Operand → Option (Option AX)
  | none => some none
  | some x => (cx P x).map some

def isAggD : TypeDesc → Bool
  | .struct _ | .array _ _ => true
  | _ => false

/-- A type's size, whether it is an aggregate. -/
def tsz (P : Program) (t : TypeId) : Option (Nat × Bool) :=
  match P.info? t, P.underlying t with
  | some i, some d => some (i.size, isAggD d)
  | _, _ => none

def tzero (P : Program) (t : TypeId) : Option (List AV) :=
  match P.info? t with
  | some i =>
    match i.zero with
    | some z => z.cells.toList.mapM (ofV 4)
    | none => none
  | none => none

/-- The zero value of a type, as one value. -/
def tzeroV (P : Program) (t : TypeId) : Option AV :=
  match P.info? t with
  | some i =>
    match i.zero with
    | some z => ofV 5 z
    | none => none
  | none => none

def cparts (P : Program) (place : Nat → Option (Nat × Nat)) : List (Nat × Operand) → Option (List (Nat × Nat × AX))
  | [] => some []
  | (i, x) :: r =>
    match place i, cx P x, cparts P place r with
    | some (off, sz), some x, some r => some ((off, sz, x) :: r)
    | _, _, _ => none

def fieldPlaces (P : Program) (fs : Array Field) : Option (List (Nat × Nat)) :=
  fs.toList.mapM fun f => (P.info? f.type).map fun i => (f.offset, i.size)

def keyDesc : TypeDesc → Option KK
  | .int _ => some .int
  | .string => some .str
  | .bool => some .bool
  | _ => none

/-- A struct all of whose fields are integers, strings, bools, each of one cell, in order. -/
def flatStruct (P : Program) (fs : Array Field) : Option (List KK) :=
  fs.toList.zipIdx.mapM fun (f, i) => if f.offset = i ∧ f.name ≠ "_" then (P.underlying f.type).bind keyDesc else none

def isC : Operand → Bool
  | .const _ => true
  | _ => false

def cbin (P : Program) (op : BinOp) (t : TypeId) (x y : Operand) : Option AOp :=
  match cx P x, cx P y, P.underlying t with
  | some ax, some ay, some d =>
    match d with
    | .int _ => some (.ibin op ax ay)
    | .string => some (.sbin op ax ay)
    | d =>
      match (match op with | .eql => some false | .neq => some true | _ => none) with
      | none => none
      | some neg =>
        match d with
        | .bool => some (.bbin neg ax ay)
        | .pointer e =>
          match P.info? e with
          | some i => if i.size = 0 then none else some (.nileq .ptr neg ax ay)
          | none => none
        | .slice _ => some (.nileq .sl neg ax ay)
        | .map _ _ => some (.nileq .mp neg ax ay)
        | .func _ _ _ => some (.nileq .fn neg ax ay)
        | .interface _ => if isC x || isC y then some (.nileq .ifc neg ax ay) else none
        | .struct fs =>
          match flatStruct P fs with
          | some ks => if P.stoodInHeld t = false ∧ P.eqGuardType P.depth t = false then some (.aggeq neg ks ax ay) else none
          | none => none
        | _ => none
  | _, _, _ => none

def isPtrD : TypeDesc → Bool
  | .pointer _ => true
  | _ => false

/-- The methods of a name: of which types, without a way to go, and taking what is held as it is. -/
def methodAt (P : Program) (name : String) (t : TypeId) : Option FuncId :=
  match P.info? t, P.underlying t with
  | some i, some d =>
    match i.methods.find? (·.name == name) with
    | some m =>
      match m.func with
      | some (f, b) => if m.path = #[] ∧ b = isPtrD d then some f else none
      | none => none
    | none => none
  | _, _ => none

def methodTbl (P : Program) (name : String) : List (TypeId × FuncId) :=
  (List.range P.types.size).filterMap fun t => (methodAt P name t).map fun f => (t, f)

def goBody (P : Program) (f : FuncId) : Bool :=
  match P.funcs[f]? with
  | some fn => fn.name != "runtime.NumGoroutine" && fn.body.isSome
  | none => false

def ccall (P : Program) (c : Call) : Option AOp :=
  match cxs P c.args with
  | none => none
  | some args =>
    match c.callee with
    | .value (.func f) => some (.call f args)
    | .value x => (cx P x).map fun x => .callV x args
    | .invoke r name => (cx P r).map fun r => .inv (methodTbl P name) r args
    | .builtin b =>
      match b, args with
      | .len, [x] =>
        match (c.argTypes[0]?).bind P.underlying with
        | some (.array n _) => some (.lenC n)
        | some .string => some (.len .str x)
        | some (.slice _) => some (.len .sl x)
        | some (.map _ _) => some (.len .mp x)
        | some (.pointer a) =>
          match P.underlying a with
          | some (.array n _) => some (.lenC n)
          | _ => none
        | _ => none
      | .cap, [x] =>
        match (c.argTypes[0]?).bind P.underlying with
        | some (.slice _) => some (.cap x)
        | _ => none
      | .append, [s, x] =>
        match (c.argTypes[0]?).bind P.underlying, (c.argTypes[1]?).bind P.underlying with
        | some (.slice e), some d =>
          match (match d with | .slice _ | .string => true | _ => false), P.info? e with
          | true, some i => if c.argTypes.size = 2 ∧ i.bytes < 1048576 ∧ (tzero P e).map (·.length) = some i.size then some (.app i.size i.bytes e s x) else none
          | _, _ => none
        | _, _ => none
      | .copy, [d, s] =>
        match (c.argTypes[0]?).bind P.underlying with
        | some (.slice e) =>
          match P.info? e with
          | some i => some (.copy i.size d s)
          | none => none
        | _ => none
      | .min, x :: xs => some (.mnmx false x xs)
      | .max, x :: xs => some (.mnmx true x xs)
      | .clear, [x] =>
        match (c.argTypes[0]?).bind P.underlying with
        | some (.map _ _) => some (.clrM x)
        | some (.slice e) =>
          match tzero P e with
          | some z => if 1 ≤ z.length then some (.clrS z x) else none
          | none => none
        | _ => none
      | .delete, [m, k] =>
        match (c.argTypes[0]?).bind P.underlying with
        | some (.map kt _) =>
          match P.underlying kt with
          | some d => (keyDesc d).map fun kk => .del kk m k
          | none => none
        | _ => none
      | .unsafeSliceData, [x] => some (.usd x)
      | .unsafeString, [p, n] =>
        match (c.argTypes[0]?).bind P.underlying with
        | some (.pointer e) => if P.cellsOf e = 1 then some (.ustr e p n) else none
        | _ => none
      | _, _ => none

def cop (P : Program) (op : Op) : Option AOp :=
  match op with
  | .move x | .assign x => (cx P x).map .mov
  | .pick c a b =>
    match cx P c, cx P a, cx P b with
    | some c, some a, some b => some (.pick c a b)
    | _, _, _ => none
  | .alloc e =>
    match tzero P e, tsz P e with
    | some z, some (n, _) => some (.alloc z n e)
    | _, _ => none
  | .box e x =>
    match cx P x, tsz P e with
    | some x, some (n, _) => some (.box x n)
    | _, _ => none
  | .build t ps =>
    match tzero P t, P.underlying t with
    | some z, some (.struct fs) =>
      match fieldPlaces P fs with
      | some pl => (cparts P (fun i => pl[i]?) ps.toList).map fun ps => .build z ps
      | none => none
    | some z, some (.array _ e) =>
      match P.info? e with
      | some i => (cparts P (fun j => some (j * i.size, i.size)) ps.toList).map fun ps => .build z ps
      | none => none
    | _, _ => none
  | .buildSlice t len ps =>
    match P.underlying t with
    | some (.slice e) =>
      match P.info? e, tzero P e with
      | some i, some z =>
        if 1 ≤ i.size ∧ len * i.size ≤ 16777216 ∧ z.length = i.size then
          (cparts P (fun j => some (j * i.size, i.size)) ps.toList).map fun ps => .buildSl (repX z len) len i.size ps
        else none
      | _, _ => none
    | _ => none
  | .load t a =>
    match tsz P t, cx P a with
    | some (n, g), some a => if g || n == 1 then some (.load g n a) else none
    | _, _ => none
  | .store t a x =>
    match tsz P t, cx P a, cx P x with
    | some (n, _), some a, some x => some (.store n a x)
    | _, _, _ => none
  | .nilCheck x => (cx P x).map .nilck
  | .binOp op t x y _ =>
    match op with
    | .shl | .shr =>
      match cx P x, cx P y with
      | some ax, some ay => some (.ibin op ax ay)
      | _, _ => none
    | _ => cbin P op t x y
  | .unOp op _ x => (cx P x).map (.un op)
  | .convert src dst x =>
    match cx P x, P.underlying src, P.underlying dst with
    | some ax, some (.int _), some (.int k) => some (.conv k ax)
    | some ax, some .string, some .string => some (.smov ax)
    | some ax, some .string, some (.slice e) =>
      match P.underlying e with
      | some (.int .u8) => some (.s2b ax)
      | _ => none
    | some ax, some (.slice e), some .string =>
      match P.underlying e with
      | some (.int .u8) => some (.b2s ax)
      | _ => none
    | _, _, _ => none
  | .makeInterface t x =>
    match cx P x, P.underlying t with
    | some _, some (.interface _) => none
    | some ax, some _ => some (.mkI t ax)
    | _, _ => none
  | .makeFunc fn first caps =>
    match cxs P first, cxs P caps with
    | some f, some c => some (.mkF fn f c)
    | _, _ => none
  | .makeMap _ none => some .mkM
  | .makeSlice t l c =>
    match P.underlying t with
    | some (.slice e) =>
      match P.info? e, tzero P e, cx P l, cx P c with
      | some i, some z, some l, some c => if 1 ≤ i.size ∧ z.length = i.size then some (.mkS z i.size i.bytes l c) else none
      | _, _, _, _ => none
    | _ => none
  | .slice t x lo hi mx =>
    match cx P x, cxo P lo, cxo P hi, cxo P mx with
    | some x, some lo, some hi, some mx =>
      match P.underlying t with
      | some .string => match mx with | none => some (.slS x lo hi) | some _ => none
      | some (.slice e) => (P.info? e).map fun i => .slV i.size x lo hi mx
      | some (.array n e) => (P.info? e).map fun i => .slA n i.size x lo hi mx
      | some (.pointer a) =>
        match P.underlying a with
        | some (.array n e) => (P.info? e).map fun i => .slA n i.size x lo hi mx
        | _ => none
      | _ => none
    | _, _, _, _ => none
  | .fieldAddr t x i =>
    match P.underlying t, cx P x with
    | some (.struct fs), some x =>
      match fs[i]? with
      | some f =>
        match P.info? f.type with
        | some j => if j.size = 0 then none else some (.fadr f.offset x)
        | none => none
      | none => none
    | _, _ => none
  | .field t x i =>
    match P.underlying t, cx P x with
    | some (.struct fs), some x =>
      match fs[i]? with
      | some f => (tsz P f.type).map fun (n, g) => .fld g f.offset n x
      | none => none
    | _, _ => none
  | .indexAddr t x i =>
    match P.underlying t, cx P x, cx P i with
    | some (.array n e), some x, some i => (P.info? e).map fun j => .iadrA n j.size x i
    | some (.slice e), some x, some i => (P.info? e).map fun j => .iadrS j.size x i
    | _, _, _ => none
  | .index t x i =>
    match P.underlying t, cx P x, cx P i with
    | some (.array n e), some x, some i => (tsz P e).map fun (sz, g) => .ixA n g sz x i
    | some .string, some x, some i => some (.ixS x i)
    | _, _, _ => none
  | .lookup t m k ok =>
    match P.underlying t, cx P m, cx P k with
    | some (.map kt e), some m, some k =>
      match (P.underlying kt).bind keyDesc, tzeroV P e with
      | some kk, some z => some (.look kk z ok m k)
      | _, _ => none
    | _, _, _ => none
  | .mapUpdate t m k v | .insert t m k v =>
    match P.underlying t, cx P m, cx P k, cx P v with
    | some (.map kt _), some m, some k, some v =>
      match (P.underlying kt).bind keyDesc with
      | some kk => some (.mupd kk m k v)
      | none => none
    | _, _, _, _ => none
  | .extract x i => (cx P x).map fun x => .extr x i
  | .call c => ccall P c
  | _ => none

/-- A check of a method value that the same region makes. -/
def chint (P : Program) (ops : Array Oper) (op : Op) : Option AOp :=
  match op with
  | .nilCheck (.tmp t) =>
    match ops.toList.findSome? (fun o => if o.dst = some t then (match o.op with | .makeFunc (.method nm) _ _ => some nm | _ => none) else none) with
    | some nm => some (.nilckM nm (methodTbl P nm) (.tmp t))
    | none => none
  | _ => none

def copH (P : Program) (ops : Array Oper) (op : Op) : AOp :=
  match chint P ops op with
  | some ao => ao
  | none => (cop P op).getD .bad

/-- One operation of a region; n: how many slots there are. What isn't followed is 'bad': it is met by no answer. -/
def coper (P : Program) (n : Nat) (ops : Array Oper) (o : Oper) : Option AOper :=
  if (match o.dst with | some d => decide (d < n) | none => true) then
    match o.guard with
    | none => some ⟨o.dst, copH P ops o.op, none⟩
    | some (g, want) =>
      match (ops[g]?).bind (·.dst) with
      | some d => some ⟨o.dst, copH P ops o.op, some (d, want)⟩
      | none => none
  else none

def comp (P : Program) (n : Nat) : Code → AC
  | .skip => .skip
  | .region _ ops false =>
    match ops.toList.mapM (coper P n ops) with
    | some l => .region l
    | none => .bad
  | .region _ ops true =>
    match ops.toList.mapM (coper P n ops) with
    | some l =>
      if drawOk l (Region.before ops).toList && (ops.toList.zipIdx.all fun (o, i) => o.after.all fun e => !Region.binds .any e || decide (e.on < i)) then .draw l (Region.before ops).toList else .bad
    | none => .bad
  | .seq a b => .seq (comp P n a) (comp P n b)
  | .cond c a b =>
    match cx P c with
    | some c => .cond c (comp P n a) (comp P n b)
    | none => .bad
  | .block id b => .block id (comp P n b)
  | .loop b => .loop (comp P n b)
  | .exit id => .exit id
  | .ret => .ret
  | _ => .bad

inductive AR where
  | tmp (t : Nat)
  | cell (a : Nat) (agg : Bool) (sz : Nat)
  deriving Inhabited

structure AFn where
  ntmps : Nat
  nparams : Nat
  res : List AR
  body : AC
  deriving Inhabited

def cres (P : Program) : ResultVar → Option AR
  | .tmp t => some (.tmp t)
  | .cell a t => (tsz P t).map fun (n, g) => .cell a g n

def cfn (P : Program) (fn : Func) : Option AFn :=
  match fn.body, fn.results.toList.mapM (cres P) with
  | some c, some rs => some ⟨fn.ntmps, fn.params.size + fn.nfree, rs, comp P fn.ntmps c⟩
  | _, _ => none

end Go.Ai

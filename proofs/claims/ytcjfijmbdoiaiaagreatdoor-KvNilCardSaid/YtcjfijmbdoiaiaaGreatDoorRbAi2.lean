/- The abstract interpreter's operations, and how the model's operations are read as these. Definitions alone. -/
import Derived.Test.YtcjfijmbdoiaiaaGreatDoorRbAi1
set_option linter.unusedSimpArgs false
set_option linter.unusedVariables false
namespace Go.Ai

/-! ## Operands and operations -/

inductive AX where
  | tmp (t : Nat)
  | const (v : AV)
  deriving Inhabited

/-- What is compared with nil. -/
inductive NK where
  | ptr | sl | mp | fn | ifc

/-- A map's keys. -/
inductive KK where
  | int | str | bool

/-- Whose length. -/
inductive LK where
  | str | sl | mp

inductive AOp where
  | mov (x : AX)
  | pick (c a b : AX)
  | alloc (z : List AV) (esz : Nat) (el : TypeId)
  | box (x : AX) (esz : Nat)
  | build (z : List AV) (ps : List (Nat × Nat × AX))
  | buildSl (z : List AV) (len esz : Nat) (ps : List (Nat × Nat × AX))
  | load (agg : Bool) (sz : Nat) (a : AX)
  | store (sz : Nat) (a x : AX)
  | nilck (x : AX)
  | nilckM (nm : String) (tbl : List (TypeId × FuncId)) (x : AX)
  | ibin (op : BinOp) (x y : AX)
  | sbin (op : BinOp) (x y : AX)
  | bbin (neg : Bool) (x y : AX)
  | nileq (k : NK) (neg : Bool) (x y : AX)
  | aggeq (neg : Bool) (ks : List KK) (x y : AX)
  | un (op : UnOp) (x : AX)
  | conv (k : IntKind) (x : AX)
  | smov (x : AX)
  | s2b (x : AX)
  | b2s (x : AX)
  | mkI (t : TypeId) (x : AX)
  | mkF (fn : Fn) (first caps : List AX)
  | mkM
  | mkS (z : List AV) (esz bytes : Nat) (len cap : AX)
  | slS (x : AX) (lo hi : Option AX)
  | slV (esz : Nat) (x : AX) (lo hi mx : Option AX)
  | slA (n esz : Nat) (x : AX) (lo hi mx : Option AX)
  | fadr (off : Nat) (x : AX)
  | fld (agg : Bool) (off sz : Nat) (x : AX)
  | iadrA (n esz : Nat) (x i : AX)
  | iadrS (esz : Nat) (x i : AX)
  | ixA (n : Nat) (agg : Bool) (esz : Nat) (x i : AX)
  | ixS (x i : AX)
  | look (kk : KK) (z : AV) (ok : Bool) (m k : AX)
  | mupd (kk : KK) (m k v : AX)
  | extr (x : AX) (i : Nat)
  | len (k : LK) (x : AX)
  | lenC (n : Nat)
  | cap (x : AX)
  | app (esz bytes : Nat) (el : TypeId) (s x : AX)
  | copy (esz : Nat) (d s : AX)
  | mnmx (mx : Bool) (x : AX) (xs : List AX)
  | clrM (m : AX)
  | clrS (z : List AV) (s : AX)
  | del (kk : KK) (m k : AX)
  | usd (x : AX)
  | ustr (el : TypeId) (p n : AX)
  | call (f : FuncId) (args : List AX)
  | callV (x : AX) (args : List AX)
  | inv (tbl : List (TypeId × FuncId)) (x : AX) (args : List AX)
  | bad
  deriving Inhabited

structure AOper where
  dst : Option Nat
  op : AOp
  guard : Option (Nat × Bool)
  deriving Inhabited

/-! ## What an operation does -/

abbrev Tm := PT AV

def Tm.at (tm : Tm) (t : Nat) : AV := (PT.get tm t).getD AV.undef
def Tm.put (tm : Tm) (d : Option Nat) (v : AV) : Tm :=
  match d with
  | some d => PT.set tm d (some v)
  | none => tm

def AX.ev (tm : Tm) : AX → AV
  | .tmp t => tm.at t
  | .const v => v

/-- The first n of a list, if there are so many. -/
def takeX {α : Type} : Nat → List α → Option (List α)
  | 0, _ => some []
  | _ + 1, [] => none
  | n + 1, x :: l => (takeX n l).map (x :: ·)

/-- A list with a piece laid over it from a place on, if it fits. -/
def spliceX {α : Type} : Nat → List α → List α → Option (List α)
  | 0, [], l => some l
  | 0, _ :: _, [] => none
  | 0, v :: vs, _ :: l => (spliceX 0 vs l).map (v :: ·)
  | _ + 1, [], l => some l
  | _ + 1, _ :: _, [] => none
  | n + 1, v :: vs, x :: l => (spliceX n (v :: vs) l).map (x :: ·)

def AS.loads (s : AS) (b o n : Nat) : Option (List AV) :=
  match s.get b with
  | some (.cells cs _ _ _ _) => takeX n (cs.drop o)
  | _ => none

def AS.stores (s : AS) (b o : Nat) (vs : List AV) : Option AS :=
  match s.get b with
  | some (.cells cs esz ex false el) =>
    if vs.all AV.one then (spliceX o vs cs).map fun cs' => s.put b (.cells cs' esz ex false el) else none
  | _ => none

/-- Parts laid into cells. -/
def fillX (tm : Tm) : List AV → List (Nat × Nat × AX) → Option (List AV)
  | cs, [] => some cs
  | cs, (off, size, x) :: r =>
    let v := (x.ev tm).cells
    if v.length = size && decide (off + size ≤ cs.length) then
      match spliceX off v cs with
      | some cs' => fillX tm cs' r
      | none => none
    else none

def ibinX (op : BinOp) (k : IntKind) (a : Int) (k' : IntKind) (b : Int) : Option AV :=
  match op with
  | .shl => if b < 0 then none else some (.int k (k.wrap (a * 2 ^ min b.toNat k.bits)))
  | .shr => if b < 0 then none else some (.int k (a.fdiv (2 ^ min b.toNat k.bits)))
  | _ =>
    if k ≠ k' then none else
    match op with
    | .add => some (.int k (k.wrap (a + b)))
    | .sub => some (.int k (k.wrap (a - b)))
    | .mul => some (.int k (k.wrap (a * b)))
    | .quo => if b = 0 then none else some (.int k (k.wrap (a.tdiv b)))
    | .rem => if b = 0 then none else some (.int k (a.tmod b))
    | .and => some (.int k (k.wrap (BitVec.ofInt k.bits a &&& BitVec.ofInt k.bits b).toNat))
    | .or => some (.int k (k.wrap (BitVec.ofInt k.bits a ||| BitVec.ofInt k.bits b).toNat))
    | .xor => some (.int k (k.wrap (BitVec.ofInt k.bits a ^^^ BitVec.ofInt k.bits b).toNat))
    | .andNot => some (.int k (k.wrap (BitVec.ofInt k.bits a &&& ~~~ (BitVec.ofInt k.bits b)).toNat))
    | .eql => some (.bool (a == b))
    | .neq => some (.bool (a != b))
    | .lss => some (.bool (decide (a < b)))
    | .leq => some (.bool (decide (a ≤ b)))
    | .gtr => some (.bool (decide (a > b)))
    | .geq => some (.bool (decide (a ≥ b)))
    | _ => none

def sbinX (op : BinOp) (a b : List UInt8) : Option AV :=
  match op with
  | .add => if a.length + b.length < 4611686018427387904 then some (.str (a ++ b)) else none
  | .eql => some (.bool (a == b))
  | .neq => some (.bool !(a == b))
  | .lss => some (.bool (Op.bytesLess a b))
  | .leq => some (.bool (Op.bytesLess a b || a == b))
  | .gtr => some (.bool !(Op.bytesLess a b || a == b))
  | .geq => some (.bool !(Op.bytesLess a b))
  | _ => none

def nileqX : NK → AV → AV → Option Bool
  | .ptr, .ptr none, .ptr b => some b.isNone
  | .ptr, .ptr (some _), .ptr none => some false
  | .ptr, .ptr (some (b, o)), .ptr (some (b', o')) => if b = b' then some (o == o') else none
  | .sl, .slice none _ _, .slice b _ _ => some b.isNone
  | .sl, .slice (some _) _ _, .slice none _ _ => some false
  | .mp, .map none, .map b => some b.isNone
  | .mp, .map (some _), .map none => some false
  | .fn, .nilFunc, .nilFunc => some true
  | .fn, .nilFunc, .func _ _ _ => some false
  | .fn, .func _ _ _, .nilFunc => some false
  | .ifc, .nilIface, .nilIface => some true
  | .ifc, .nilIface, .iface _ _ => some false
  | .ifc, .iface _ _, .nilIface => some false
  | _, _, _ => none

/-- Two plain values of one cell: are they one? -/
def keyEq : KK → AV → AV → Option Bool
  | .int, .int k a, .int k' b => if k = k' then some (a == b) else none
  | .str, .str a, .str b => some (a == b)
  | .bool, .bool a, .bool b => some (a == b)
  | _, _, _ => none

def scalEqs : List KK → List AV → List AV → Option Bool
  | [], [], [] => some true
  | k :: ks, x :: l, y :: m =>
    match keyEq k x y with
    | some true => scalEqs ks l m
    | some false => some false
    | none => none
  | _, _, _ => none

def bound (x : AV) (y : Nat) : Option Nat :=
  match x with
  | .int _ i => if 0 ≤ i ∧ i ≤ y then some i.toNat else none
  | _ => none

def bounds (len cap : Nat) (lo hi mx : Option AV) : Option (Nat × Nat × Nat) :=
  match (match mx with | some v => bound v cap | none => some cap) with
  | none => none
  | some m =>
    match (match hi, mx with | some v, _ => bound v m | none, none => some len | none, some _ => none) with
    | none => none
    | some h =>
      match (match lo with | some v => bound v h | none => some 0) with
      | none => none
      | some l => some (l, h, m)

def findX (kk : KK) (k : AV) : List (AV × AV) → Nat → Option (Option (Nat × AV))
  | [], _ => some none
  | (k', v) :: es, i =>
    match keyEq kk k k' with
    | some true => some (some (i, v))
    | some false => findX kk k es (i + 1)
    | none => none

def bytesOf : List AV → Option (List UInt8)
  | [] => some []
  | .int .u8 n :: l => (bytesOf l).map (UInt8.ofNat n.toNat :: ·)
  | _ :: _ => none

def repX (z : List AV) : Nat → List AV
  | 0 => []
  | n + 1 => z ++ repX z n

def mnmxX (mx : Bool) : AV → AV → Option AV
  | .int k x, .int _ y => some (.int k (if mx then (if y > x then y else x) else (if y < x then y else x)))
  | .str x, .str y => some (.str (if mx then (if Op.bytesLess x y then y else x) else (if Op.bytesLess x y || x == y then x else y)))
  | _, _ => none

def foldX (mx : Bool) : AV → List AV → Option AV
  | v, [] => some v
  | v, x :: l =>
    match mnmxX mx v x with
    | some u => foldX mx u l
    | none => none

/-- The source of an append or a copy: how many elements, and how their first n look as cells. -/
def srcLen : AV → Option Nat
  | .slice _ l _ => some l
  | .str s => some s.length
  | _ => none

def srcCells (s : AS) (esz n : Nat) : AV → Option (List AV)
  | .slice none _ _ => some []
  | .slice (some (b, o)) _ _ => s.loads b o (n * esz)
  | .str t => if esz = 1 then some ((t.take n).map fun b => AV.int .u8 b.toNat) else none
  | _ => none

def appX (esz bytes : Nat) (el : TypeId) (s : AS) (sv x : AV) : Option (AV × AS) :=
  match sv, srcLen x with
  | .slice base len cap, some n =>
    let need := len + n
    match srcCells s esz n x with
    | none => none
    | some news =>
      if !(news.length == n * esz && news.all AV.one) then none else
      if need ≤ cap then
        match base with
        | none => some (.slice none need cap, s)
        | some (b, o) =>
          match s.stores b (o + len * esz) news with
          | some s' => some (.slice base need cap, s')
          | none => none
      else if need * bytes < 70368744177664 ∧ need < 70368744177664 then
        match base with
        | none => some (.slice (some (s.nx, 0)) need need, s.new (.cells news esz false false (some el)))
        | some (b, o) =>
          match s.get b with
          | some (.cells cs esz' ex ro elo) =>
            match takeX (len * esz) (cs.drop o) with
            | none => none
            | some olds =>
              if ex || !(o + cap * esz' == cs.length) then
                some (.slice (some (s.nx, 0)) need need, s.new (.cells (olds ++ news) esz false false (some el)))
              else if esz' == esz && !ro then
                some (.slice (some (s.nx, 0)) need need, (s.kill b).new (.cells (olds ++ news) esz false false (if elo = some el then elo else none)))
              else none
          | _ => none
      else none
  | _, _ => none

/-- What an operation that calls nothing does. -/
def aop (tm : Tm) (s : AS) : AOp → Option (AV × AS)
  | .mov x => some (x.ev tm, s)
  | .pick c a b =>
    match c.ev tm with
    | .bool t => some (if t then a.ev tm else b.ev tm, s)
    | _ => none
  | .alloc _ _ _ | .box _ _ | .buildSl _ _ _ _ | .s2b _ | .mkM | .mkS _ _ _ _ _ => none
  | .build z ps => (fillX tm z ps).map fun cs => (.agg cs, s)
  | .load agg sz a =>
    match a.ev tm with
    | .ptr (some (b, o)) =>
      match s.loads b o sz with
      | some cs => if agg then some (.agg cs, s) else match cs with | [v] => some (v, s) | _ => none
      | none => none
    | _ => none
  | .store sz a x =>
    match a.ev tm with
    | .ptr (some (b, o)) =>
      let v := (x.ev tm).cells
      if v.length = sz then (s.stores b o v).map fun s' => (AV.undef, s') else none
    | _ => none
  | .nilck x =>
    match x.ev tm with
    | .ptr none => none
    | .nilIface => none
    | .nilFunc => none
    | .func (.method _) _ _ => none
    | v => some (v, s)
  | .nilckM nm tbl x =>
    match x.ev tm with
    | .func (.method n) [.iface t v] caps => if n = nm ∧ tbl.any (·.1 == t) then some (.func (.method n) [.iface t v] caps, s) else none
    | _ => none
  | .ibin op x y =>
    match x.ev tm, y.ev tm with
    | .int k a, .int k' b => (ibinX op k a k' b).map fun v => (v, s)
    | _, _ => none
  | .sbin op x y =>
    match x.ev tm, y.ev tm with
    | .str a, .str b => (sbinX op a b).map fun v => (v, s)
    | _, _ => none
  | .bbin neg x y =>
    match x.ev tm, y.ev tm with
    | .bool a, .bool b => some (.bool (if neg then !(a == b) else a == b), s)
    | _, _ => none
  | .nileq k neg x y => (nileqX k (x.ev tm) (y.ev tm)).map fun b => (.bool (if neg then !b else b), s)
  | .aggeq neg ks x y =>
    match x.ev tm, y.ev tm with
    | .agg l, .agg m => (scalEqs ks l m).map fun b => (.bool (if neg then !b else b), s)
    | _, _ => none
  | .un op x =>
    match op, x.ev tm with
    | .neg, .int k n => some (.int k (k.wrap (0 - n)), s)
    | .xor, .int k n => some (.int k (k.wrap (BitVec.ofInt k.bits (if k.signed then -1 else k.max) ^^^ BitVec.ofInt k.bits n).toNat), s)
    | .not, .bool b => some (.bool !b, s)
    | _, _ => none
  | .conv k x =>
    match x.ev tm with
    | .int _ n => some (.int k (k.wrap n), s)
    | _ => none
  | .smov x =>
    match x.ev tm with
    | .str t => some (.str t, s)
    | _ => none
  | .b2s x =>
    match x.ev tm with
    | .slice none _ _ => some (.str [], s)
    | .slice (some (b, o)) l _ => (s.loads b o l).bind fun cs => (bytesOf cs).map fun t => (.str t, s)
    | _ => none
  | .mkI t x => some (.iface t (x.ev tm), s)
  | .mkF fn first caps => some (.func fn (first.map (AX.ev tm)) (caps.map (AX.ev tm)), s)
  | .slS x lo hi =>
    match x.ev tm with
    | .str t =>
      match bounds t.length t.length (lo.map (AX.ev tm)) (hi.map (AX.ev tm)) none with
      | some (l, h, _) => some (.str ((t.drop l).take (h - l)), s)
      | none => none
    | _ => none
  | .slV esz x lo hi mx =>
    match x.ev tm with
    | .slice a len cap =>
      match bounds len cap (lo.map (AX.ev tm)) (hi.map (AX.ev tm)) (mx.map (AX.ev tm)) with
      | some (l, h, m) =>
        match a with
        | none => some (.slice none (h - l) (m - l), s)
        | some (b, o) =>
          match s.get b with
          | some (.cells _ esz' ex _ _) => if ex || esz' == esz then some (.slice (some (b, o + l * esz)) (h - l) (m - l), s) else none
          | _ => none
      | none => none
    | _ => none
  | .slA n esz x lo hi mx =>
    match x.ev tm with
    | .ptr (some (b, o)) =>
      match bounds n n (lo.map (AX.ev tm)) (hi.map (AX.ev tm)) (mx.map (AX.ev tm)) with
      | some (l, h, m) => some (.slice (some (b, o + l * esz)) (h - l) (m - l), s)
      | none => none
    | _ => none
  | .fadr off x =>
    match x.ev tm with
    | .ptr (some (b, o)) => some (.ptr (some (b, o + off)), s)
    | _ => none
  | .fld agg off sz x =>
    match x.ev tm with
    | .agg cs =>
      if agg then (takeX sz (cs.drop off)).map fun l => (.agg l, s) else (cs[off]?).map fun v => (v, s)
    | _ => none
  | .iadrA n esz x i =>
    match x.ev tm, i.ev tm with
    | .ptr (some (b, o)), .int _ j => if 0 ≤ j ∧ j < n then some (.ptr (some (b, o + j.toNat * esz)), s) else none
    | _, _ => none
  | .iadrS esz x i =>
    match x.ev tm, i.ev tm with
    | .slice (some (b, o)) l _, .int _ j => if 0 ≤ j ∧ j < l then some (.ptr (some (b, o + j.toNat * esz)), s) else none
    | _, _ => none
  | .ixA n agg esz x i =>
    match x.ev tm, i.ev tm with
    | .agg cs, .int _ j =>
      if 0 ≤ j ∧ j < n then
        if agg then (takeX esz (cs.drop (j.toNat * esz))).map fun l => (.agg l, s) else (cs[j.toNat * esz]?).map fun v => (v, s)
      else none
    | _, _ => none
  | .ixS x i =>
    match x.ev tm, i.ev tm with
    | .str t, .int _ j => if 0 ≤ j then (t[j.toNat]?).map fun b => (.int .u8 b.toNat, s) else none
    | _, _ => none
  | .look kk z ok m k =>
    match m.ev tm with
    | .map none => some (if ok then .tuple [z, .bool false] else z, s)
    | .map (some r) =>
      match s.get r with
      | some (.map es) =>
        match findX kk (k.ev tm) es 0 with
        | some (some (_, v)) => some (if ok then .tuple [v, .bool true] else v, s)
        | some none => some (if ok then .tuple [z, .bool false] else z, s)
        | none => none
      | _ => none
    | _ => none
  | .mupd kk m k v =>
    match m.ev tm with
    | .map (some r) =>
      match s.get r with
      | some (.map es) =>
        match findX kk (k.ev tm) es 0 with
        | some (some (i, _)) => some (AV.undef, s.put r (.map (es.set i (k.ev tm, v.ev tm))))
        | some none => some (AV.undef, s.put r (.map (es ++ [(k.ev tm, v.ev tm)])))
        | none => none
      | _ => none
    | _ => none
  | .extr x i =>
    match x.ev tm with
    | .tuple vs => (vs[i]?).map fun v => (v, s)
    | _ => none
  | .len k x =>
    match k, x.ev tm with
    | .str, .str t => some (.int .i64 t.length, s)
    | .sl, .slice _ l _ => some (.int .i64 l, s)
    | .mp, .map none => some (.int .i64 0, s)
    | .mp, .map (some r) =>
      match s.get r with
      | some (.map es) => some (.int .i64 es.length, s)
      | _ => none
    | _, _ => none
  | .lenC n => some (.int .i64 n, s)
  | .cap x =>
    match x.ev tm with
    | .slice none _ c => some (.int .i64 c, s)
    | .slice (some (b, o)) _ c =>
      match s.get b with
      | some (.cells cs esz ex _ _) => if ex || !(o + c * esz == cs.length) then some (.int .i64 c, s) else none
      | _ => none
    | _ => none
  | .app esz bytes el sv x => appX esz bytes el s (sv.ev tm) (x.ev tm)
  | .copy esz d src =>
    match d.ev tm, srcLen (src.ev tm) with
    | .slice base dl _, some sl =>
      let n := min sl dl
      match srcCells s esz n (src.ev tm) with
      | none => none
      | some cs =>
        if !(cs.length == n * esz) then none else
        match base with
        | none => some (.int .i64 n, s)
        | some (b, o) => (s.stores b o cs).map fun s' => (.int .i64 n, s')
    | _, _ => none
  | .mnmx mx x xs => (foldX mx (x.ev tm) (xs.map (AX.ev tm))).map fun v => (v, s)
  | .clrM m =>
    match m.ev tm with
    | .map none => some (.tuple [], s)
    | .map (some r) =>
      match s.get r with
      | some (.map _) => some (.tuple [], s.put r (.map []))
      | _ => none
    | _ => none
  | .clrS z sv =>
    match sv.ev tm with
    | .slice none _ _ => some (.tuple [], s)
    | .slice (some (b, o)) l _ => if l = 0 then some (.tuple [], s) else (s.stores b o (repX z l)).map fun s' => (.tuple [], s')
    | _ => none
  | .del kk m k =>
    match m.ev tm with
    | .map none => some (.tuple [], s)
    | .map (some r) =>
      match s.get r with
      | some (.map es) =>
        match findX kk (k.ev tm) es 0 with
        | some (some (i, _)) => some (.tuple [], s.put r (.map (es.eraseIdx i)))
        | some none => some (.tuple [], s)
        | none => none
      | _ => none
    | _ => none
  | .usd x =>
    match x.ev tm with
    | .slice none _ _ => some (.ptr none, s)
    | .slice (some (b, o)) _ c => if c = 0 then none else some (.ptr (some (b, o)), s)
    | _ => none
  | .ustr el p n =>
    match p.ev tm, n.ev tm with
    | .ptr pa, .int .i64 n =>
      if n = 0 then some (.str [], s) else
      match pa with
      | none => none
      | some (b, o) =>
        match s.get b with
        | some (.cells cs _ _ false (some el')) =>
          if el' = el ∧ 0 ≤ n ∧ n ≤ 70368744177664 then
            match takeX n.toNat (cs.drop o) with
            | some l =>
              match bytesOf l with
              | some t => some (.str t, s.kill b)
              | none => none
            | none => none
          else none
        | _ => none
    | _, _ => none
  | .call _ _ | .callV _ _ | .inv _ _ _ | .bad => none

/-- Whom an operation calls. -/
def acallee (tm : Tm) : AOp → Option (FuncId × List AV)
  | .call f args => some (f, args.map (AX.ev tm))
  | .callV x args =>
    match x.ev tm with
    | .func (.func f) first caps => some (f, first ++ args.map (AX.ev tm) ++ caps)
    | _ => none
  | .inv tbl x args =>
    match x.ev tm with
    | .iface t v =>
      match tbl.find? (·.1 == t) with
      | some (_, f) => some (f, v :: args.map (AX.ev tm))
      | none => none
    | _ => none
  | _ => none

/-- An operation that only makes one block: the block, and the value by the block's number. -/
def aalloc (tm : Tm) : AOp → Option (ABlk × (Nat → AV))
  | .alloc z esz el => some (.cells z esz true false (some el), fun e => .ptr (some (e, 0)))
  | .box x esz => some (.cells (x.ev tm).cells esz true false none, fun e => .ptr (some (e, 0)))
  | .buildSl z len esz ps => (fillX tm z ps).map fun cs => (.cells cs esz true false none, fun e => .slice (some (e, 0)) len len)
  | .s2b x =>
    match x.ev tm with
    | .str t => if t.length < 70368744177664 then some (.cells (t.map fun b => AV.int .u8 b.toNat) 1 false false none, fun e => .slice (some (e, 0)) t.length t.length) else none
    | _ => none
  | .mkM => some (.map [], fun e => .map (some e))
  | .mkS z esz bytes len cap =>
    match len.ev tm, cap.ev tm with
    | .int .i64 l, .int .i64 c =>
      if 0 ≤ l ∧ l ≤ c ∧ c * bytes ≤ 140737488355328 ∧ c ≤ 140737488355328 then some (.cells (repX z c.toNat) esz true false none, fun e => .slice (some (e, 0)) l.toNat c.toNat) else none
    | _, _ => none
  | _ => none

/-- Which operations these are; which read the heap and leave it; which may change it. -/
inductive OK4 where
  | pure | alloc | read | write
  deriving DecidableEq

def AOp.kind : AOp → OK4
  | .alloc _ _ _ | .box _ _ | .buildSl _ _ _ _ | .s2b _ | .mkM | .mkS _ _ _ _ _ => .alloc
  | .load _ _ _ | .slV _ _ _ _ _ | .cap _ | .len _ _ | .look _ _ _ _ _ | .b2s _ => .read
  | .store _ _ _ | .mupd _ _ _ _ | .app _ _ _ _ _ | .copy _ _ _ | .clrM _ | .clrS _ _ | .del _ _ _ | .ustr _ _ _ | .call _ _ | .callV _ _ | .inv _ _ _ | .bad => .write
  | _ => .pure

/-! ## Code -/

inductive AC where
  | skip
  | region (ops : List AOper)
  | draw (ops : List AOper) (before : List Nat)
  | seq (a b : AC)
  | cond (c : AX) (a b : AC)
  | block (id : Nat) (b : AC)
  | loop (b : AC)
  | exit (id : Nat)
  | ret
  | bad
  deriving Inhabited

inductive AE where
  | normal
  | exit (id : Nat)
  | ret

abbrev ACall := FuncId → List AV → AS → Option (AV × AS)

def AOper.wanted (o : AOper) (tm : Tm) : Bool :=
  match o.guard with
  | none => true
  | some (d, want) => match tm.at d with | .bool b => b == want | _ => false

/-- An operation, a call among them. -/
def aoper (call : ACall) (tm : Tm) (s : AS) (op : AOp) : Option (AV × AS) :=
  match acallee tm op with
  | some (f, vs) => call f vs s
  | none =>
    match aalloc tm op with
    | some (blk, mk) => some (mk s.nx, s.new blk)
    | none => aop tm s op

/-- The operands. -/
def AOp.xs : AOp → List AX
  | .mov x => [x]
  | .pick c a b => [c, a, b]
  | .alloc _ _ _ => []
  | .box x _ => [x]
  | .build _ ps => ps.map (·.2.2)
  | .buildSl _ _ _ ps => ps.map (·.2.2)
  | .load _ _ a => [a]
  | .store _ a x => [a, x]
  | .nilck x => [x]
  | .nilckM _ _ x => [x]
  | .ibin _ x y => [x, y]
  | .sbin _ x y => [x, y]
  | .bbin _ x y => [x, y]
  | .nileq _ _ x y => [x, y]
  | .aggeq _ _ x y => [x, y]
  | .un _ x => [x]
  | .conv _ x => [x]
  | .smov x => [x]
  | .s2b x => [x]
  | .b2s x => [x]
  | .mkI _ x => [x]
  | .mkF _ f c => f ++ c
  | .mkM => []
  | .mkS _ _ _ l c => [l, c]
  | .slS x lo hi => x :: (lo.toList ++ hi.toList)
  | .slV _ x lo hi mx => x :: (lo.toList ++ hi.toList ++ mx.toList)
  | .slA _ _ x lo hi mx => x :: (lo.toList ++ hi.toList ++ mx.toList)
  | .fadr _ x => [x]
  | .fld _ _ _ x => [x]
  | .iadrA _ _ x i => [x, i]
  | .iadrS _ x i => [x, i]
  | .ixA _ _ _ x i => [x, i]
  | .ixS x i => [x, i]
  | .look _ _ _ m k => [m, k]
  | .mupd _ m k v => [m, k, v]
  | .extr x _ => [x]
  | .len _ x => [x]
  | .lenC _ => []
  | .cap x => [x]
  | .app _ _ _ s x => [s, x]
  | .copy _ d s => [d, s]
  | .mnmx _ x xs => x :: xs
  | .clrM m => [m]
  | .clrS _ s => [s]
  | .del _ m k => [m, k]
  | .usd x => [x]
  | .ustr _ p n => [p, n]
  | .call _ args => args
  | .callV x args => x :: args
  | .inv _ x args => x :: args
  | .bad => []

def AX.slot : AX → Option Nat
  | .tmp t => some t
  | .const _ => none

/-- The slots that an operation looks at, or writes. -/
def AOper.names (o : AOper) : List Nat :=
  o.dst.toList ++ o.op.xs.filterMap AX.slot ++ (match o.guard with | some (d, _) => [d] | none => [])

/-- What the order of a drawn region must bind: its writes, and each slot's users with its writers. -/
def drawOk (ops : List AOper) (bef : List Nat) : Bool :=
  let l := ops.zip bef
  bef.length == ops.length &&
  l.zipIdx.all fun ((oj, bj), j) => l.zipIdx.all fun ((oi, _), i) =>
    if i < j then
      bj.testBit i || (!(oi.op.kind == .write && oj.op.kind == .write) && (match oi.dst with | some d => !oj.names.contains d | none => true) && (match oj.dst with | some d => !oi.names.contains d | none => true))
    else true

def aops (call : ACall) : List AOper → Tm → AS → Option (Tm × AS)
  | [], tm, s => some (tm, s)
  | o :: r, tm, s =>
    if o.wanted tm then
      match aoper call tm s o.op with
      | some (v, s') => aops call r (tm.put o.dst v) s'
      | none => none
    else aops call r (tm.put o.dst AV.undef) s

def aloop (body : Tm → AS → Option (AE × Tm × AS)) : Nat → Tm → AS → Option (AE × Tm × AS)
  | 0, _, _ => none
  | n + 1, tm, s =>
    match body tm s with
    | some (.normal, tm', s') => aloop body n tm' s'
    | r => r

end Go.Ai

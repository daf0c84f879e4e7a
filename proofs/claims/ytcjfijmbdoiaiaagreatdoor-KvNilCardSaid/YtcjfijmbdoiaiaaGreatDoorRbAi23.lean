/- The abstract interpreter in a form that the kernel evaluates fast: one small function for each operation, chosen by the recursors alone; slots and blocks found by a path's steps. -/
import Derived.Test.YtcjfijmbdoiaiaaGreatDoorRbAi22
set_option linter.unusedSimpArgs false
set_option linter.unusedVariables false
namespace Go.Ai

/-- How slots and blocks are found and laid. -/
structure Prims where
  ev : Tm → AX → AV
  tput : Tm → Option Nat → AV → Tm
  get : AS → Nat → Option ABlk
  put : AS → Nat → ABlk → AS
  kill : AS → Nat → AS
  new : AS → ABlk → AS

def aprims : Prims := ⟨fun tm x => x.ev tm, Tm.put, AS.get, AS.put, AS.kill, AS.new⟩

/-! ## Paths -/

def pathF : Nat → Nat → List Bool
  | 0, _ => []
  | f + 1, k => if k = 0 then [] else if k % 2 = 1 then true :: pathF f (k / 2) else false :: pathF f (k / 2 - 1)

noncomputable def path (k : Nat) : List Bool :=
  @Nat.rec (fun _ => Nat → List Bool) (fun _ => []) (fun _ ih k => match Nat.beq k 0 with
    | true => []
    | false => match Nat.beq (Nat.mod k 2) 1 with
      | true => true :: ih (Nat.div k 2)
      | false => false :: ih (Nat.sub (Nat.div k 2) 1)) (Nat.succ k) k

section
variable {α : Type}

noncomputable def pget (p : List Bool) : PT α → Option α :=
  @List.rec Bool (fun _ => PT α → Option α) (fun t => @PT.rec α (fun _ => Option α) none (fun v _ _ _ _ => v) t)
    (fun b _ ih t => @PT.rec α (fun _ => Option α) none (fun _ l r _ _ => @Bool.rec (fun _ => Option α) (ih r) (ih l) b) t) p

noncomputable def pset (v : Option α) (p : List Bool) : PT α → PT α :=
  @List.rec Bool (fun _ => PT α → PT α) (fun t => @PT.rec α (fun _ => PT α) (.node v .leaf .leaf) (fun _ l r _ _ => .node v l r) t)
    (fun b _ ih t => @PT.rec α (fun _ => PT α) (@Bool.rec (fun _ => PT α) (.node none .leaf (ih .leaf)) (.node none (ih .leaf) .leaf) b)
      (fun w l r _ _ => @Bool.rec (fun _ => PT α) (.node w l (ih r)) (.node w (ih l) r) b) t) p

theorem path_rec (f k : Nat) : (@Nat.rec (fun _ => Nat → List Bool) (fun _ => []) (fun _ ih k => match Nat.beq k 0 with
    | true => []
    | false => match Nat.beq (Nat.mod k 2) 1 with
      | true => true :: ih (Nat.div k 2)
      | false => false :: ih (Nat.sub (Nat.div k 2) 1)) f k) = pathF f k := by
  induction f generalizing k with
  | zero => rfl
  | succ f ih =>
    simp only [pathF]
    by_cases h : k = 0
    · subst h; rfl
    · have h0 : Nat.beq k 0 = false := by
        cases hb : Nat.beq k 0 with
        | false => rfl
        | true => exact absurd (Nat.eq_of_beq_eq_true hb) h
      rw [if_neg h, h0]
      simp only
      by_cases h1 : k % 2 = 1
      · have : Nat.beq (Nat.mod k 2) 1 = true := by show Nat.beq (k % 2) 1 = true; rw [h1]; rfl
        rw [this, if_pos h1]
        simp only
        rw [ih]; rfl
      · have : Nat.beq (Nat.mod k 2) 1 = false := by
          cases hb : Nat.beq (Nat.mod k 2) 1 with
          | false => rfl
          | true => exact absurd (Nat.eq_of_beq_eq_true hb) h1
        rw [this, if_neg h1]
        simp only
        rw [ih]; rfl

theorem path_eq (k : Nat) : path k = pathF (k + 1) k := path_rec (k + 1) k

theorem pget_nil (t : PT α) : pget [] t = t.get 0 := by cases t <;> simp [pget, PT.get]
theorem pget_cons (b : Bool) (p : List Bool) (t : PT α) : pget (b :: p) t = match t with
    | .leaf => none
    | .node _ l r => match b with | true => pget p l | false => pget p r := by
  cases t <;> cases b <;> rfl

theorem pget_eq : ∀ (f k : Nat) (t : PT α), k < f → pget (pathF f k) t = t.get k
  | 0, _, _, h => absurd h (by omega)
  | f + 1, k, t, h => by
    simp only [pathF]
    by_cases h0 : k = 0
    · subst h0; simp only [if_true]; exact pget_nil t
    · rw [if_neg h0]
      by_cases h1 : k % 2 = 1
      · rw [if_pos h1, pget_cons]
        cases t with
        | leaf => simp [PT.get]
        | node v l r => simp only [PT.get, h0, h1, if_true, if_false]; exact pget_eq f _ l (by omega)
      · rw [if_neg h1, pget_cons]
        cases t with
        | leaf => simp [PT.get]
        | node v l r => simp only [PT.get, h0, h1, if_false]; exact pget_eq f _ r (by omega)

theorem pset_nil (v : Option α) (t : PT α) : pset v [] t = match t with
    | .leaf => .node v .leaf .leaf
    | .node _ l r => .node v l r := by cases t <;> rfl
theorem pset_cons (v : Option α) (b : Bool) (p : List Bool) (t : PT α) : pset v (b :: p) t = match t with
    | .leaf => (match b with | true => .node none (pset v p .leaf) .leaf | false => .node none .leaf (pset v p .leaf))
    | .node w l r => match b with | true => .node w (pset v p l) r | false => .node w l (pset v p r) := by
  cases t <;> cases b <;> rfl

theorem pset_eq (v : Option α) : ∀ (f k : Nat) (t : PT α), k < f → pset v (pathF f k) t = PT.setF f t k v
  | 0, _, _, h => absurd h (by omega)
  | f + 1, k, t, h => by
    simp only [pathF]
    by_cases h0 : k = 0
    · subst h0
      simp only [if_true]
      rw [pset_nil]
      cases t <;> simp [PT.setF]
    · rw [if_neg h0]
      by_cases h1 : k % 2 = 1
      · rw [if_pos h1, pset_cons]
        cases t with
        | leaf => simp only [PT.setF, h0, h1, if_true, if_false]; rw [pset_eq v f _ _ (by omega)]
        | node w l r => simp only [PT.setF, h0, h1, if_true, if_false]; rw [pset_eq v f _ _ (by omega)]
      · rw [if_neg h1, pset_cons]
        cases t with
        | leaf => simp only [PT.setF, h0, h1, if_false]; rw [pset_eq v f _ _ (by omega)]
        | node w l r => simp only [PT.setF, h0, h1, if_false]; rw [pset_eq v f _ _ (by omega)]
end

noncomputable def kprims : Prims where
  ev := fun tm x => @AX.rec (fun _ => AV) (fun t => @Option.rec AV (fun _ => AV) AV.undef (fun v => v) (pget (path t) tm)) (fun v => v) x
  tput := fun tm d v => @Option.rec Nat (fun _ => Tm) tm (fun d => pset (some v) (path d) tm) d
  get := fun s b => pget (path b) s.hp
  put := fun s b o => ⟨pset (some o) (path b) s.hp, s.nx⟩
  kill := fun s b => ⟨pset none (path b) s.hp, s.nx⟩
  new := fun s o => ⟨pset (some o) (path s.nx) s.hp, s.nx + 1⟩

theorem pget_path {α : Type} (t : PT α) (k : Nat) : pget (path k) t = t.get k := by rw [path_eq]; exact pget_eq _ _ _ (by omega)
theorem pset_path {α : Type} (t : PT α) (k : Nat) (v : Option α) : pset v (path k) t = t.set k v := by rw [path_eq]; exact pset_eq _ _ _ _ (by omega)

theorem kprims_eq : kprims = aprims := by
  unfold kprims aprims
  congr 1
  · funext tm x
    cases x with
    | tmp t =>
      simp only [AX.ev, Tm.at, pget_path]
      cases PT.get tm t <;> rfl
    | const v => rfl
  · funext tm d v
    cases d with
    | none => rfl
    | some d => simp only [Tm.put, pset_path]
  · funext s b; simp only [AS.get, pget_path]
  · funext s b o; simp only [AS.put, pset_path]
  · funext s b; simp only [AS.kill, pset_path]
  · funext s o; simp only [AS.new, pset_path]

/-! ## Operations -/

def x_fill (E : Prims) (tm : Tm) : List AV → List (Nat × Nat × AX) → Option (List AV)
  | cs, [] => some cs
  | cs, (off, size, x) :: r =>
    let v := (E.ev tm x).cells
    if v.length = size && decide (off + size ≤ cs.length) then
      match spliceX off v cs with
      | some cs' => x_fill E tm cs' r
      | none => none
    else none

def x_loads (E : Prims) (s : AS) (b o n : Nat) : Option (List AV) :=
  match E.get s b with
  | some (.cells cs _ _ _ _) => takeX n (cs.drop o)
  | _ => none

def x_stores (E : Prims) (s : AS) (b o : Nat) (vs : List AV) : Option AS :=
  match E.get s b with
  | some (.cells cs esz ex false el) =>
    if vs.all AV.one then (spliceX o vs cs).map fun cs' => E.put s b (.cells cs' esz ex false el) else none
  | _ => none

def x_src (E : Prims) (s : AS) (esz n : Nat) : AV → Option (List AV)
  | .slice none _ _ => some []
  | .slice (some (b, o)) _ _ => x_loads E s b o (n * esz)
  | .str t => if esz = 1 then some ((t.take n).map fun b => AV.int .u8 b.toNat) else none
  | _ => none

def x_appX (E : Prims) (esz bytes : Nat) (el : TypeId) (s : AS) (sv x : AV) : Option (AV × AS) :=
  match sv, srcLen x with
  | .slice base len cap, some n =>
    let need := len + n
    match x_src E s esz n x with
    | none => none
    | some news =>
      if !(news.length == n * esz && news.all AV.one) then none else
      if need ≤ cap then
        match base with
        | none => some (.slice none need cap, s)
        | some (b, o) =>
          match x_stores E s b (o + len * esz) news with
          | some s' => some (.slice base need cap, s')
          | none => none
      else if need * bytes < 70368744177664 ∧ need < 70368744177664 then
        match base with
        | none => some (.slice (some (s.nx, 0)) need need, E.new s (.cells news esz false false (some el)))
        | some (b, o) =>
          match E.get s b with
          | some (.cells cs esz' ex ro elo) =>
            match takeX (len * esz) (cs.drop o) with
            | none => none
            | some olds =>
              if ex || !(o + cap * esz' == cs.length) then
                some (.slice (some (s.nx, 0)) need need, E.new s (.cells (olds ++ news) esz false false (some el)))
              else if esz' == esz && !ro then
                some (.slice (some (s.nx, 0)) need need, E.new (E.kill s b) (.cells (olds ++ news) esz false false (if elo = some el then elo else none)))
              else none
          | _ => none
      else none
  | _, _ => none

theorem x_fill_eq (tm : Tm) : ∀ (ps : List (Nat × Nat × AX)) (cs : List AV), x_fill aprims tm cs ps = fillX tm cs ps
  | [], _ => rfl
  | (off, sz, x) :: r, cs => by
    have ih := fun cs => x_fill_eq tm r cs
    simp only [x_fill, fillX, ih]
    rfl

theorem x_loads_eq : x_loads aprims = AS.loads := rfl
theorem x_stores_eq : x_stores aprims = AS.stores := rfl
theorem x_src_eq : x_src aprims = srcCells := by
  funext s esz n x
  cases x <;> first | rfl | (rename_i a l c; cases a <;> rfl)
theorem x_appX_eq : x_appX aprims = appX := by
  funext esz bytes el s sv x
  unfold x_appX appX
  rw [x_src_eq]
  rfl

def x_mov (E : Prims) (x : AX) (tm : Tm) (s : AS) : Option (AV × AS) :=
    some (E.ev tm x, s)

def x_pick (E : Prims) (c : AX) (a : AX) (b : AX) (tm : Tm) (s : AS) : Option (AV × AS) :=
    match E.ev tm c with
    | .bool t => some (if t then E.ev tm a else E.ev tm b, s)
    | _ => none

def x_build (E : Prims) (z : List AV) (ps : List (Nat × Nat × AX)) (tm : Tm) (s : AS) : Option (AV × AS) :=
    (x_fill E tm z ps).map fun cs => (.agg cs, s)

def x_load (E : Prims) (agg : Bool) (sz : Nat) (a : AX) (tm : Tm) (s : AS) : Option (AV × AS) :=
    match E.ev tm a with
    | .ptr (some (b, o)) =>
      match x_loads E s b o sz with
      | some cs => if agg then some (.agg cs, s) else match cs with | [v] => some (v, s) | _ => none
      | none => none
    | _ => none

def x_store (E : Prims) (sz : Nat) (a : AX) (x : AX) (tm : Tm) (s : AS) : Option (AV × AS) :=
    match E.ev tm a with
    | .ptr (some (b, o)) =>
      let v := (E.ev tm x).cells
      if v.length = sz then (x_stores E s b o v).map fun s' => (AV.undef, s') else none
    | _ => none

def x_nilck (E : Prims) (x : AX) (tm : Tm) (s : AS) : Option (AV × AS) :=
    match E.ev tm x with
    | .ptr none => none
    | .nilIface => none
    | .nilFunc => none
    | .func (.method _) _ _ => none
    | v => some (v, s)

def x_nilckM (E : Prims) (nm : String) (tbl : List (TypeId × FuncId)) (x : AX) (tm : Tm) (s : AS) : Option (AV × AS) :=
    match E.ev tm x with
    | .func (.method n) [.iface t v] caps => if n = nm ∧ tbl.any (·.1 == t) then some (.func (.method n) [.iface t v] caps, s) else none
    | _ => none

def x_ibin (E : Prims) (op : BinOp) (x : AX) (y : AX) (tm : Tm) (s : AS) : Option (AV × AS) :=
    match E.ev tm x, E.ev tm y with
    | .int k a, .int k' b => (ibinX op k a k' b).map fun v => (v, s)
    | _, _ => none

def x_sbin (E : Prims) (op : BinOp) (x : AX) (y : AX) (tm : Tm) (s : AS) : Option (AV × AS) :=
    match E.ev tm x, E.ev tm y with
    | .str a, .str b => (sbinX op a b).map fun v => (v, s)
    | _, _ => none

def x_bbin (E : Prims) (neg : Bool) (x : AX) (y : AX) (tm : Tm) (s : AS) : Option (AV × AS) :=
    match E.ev tm x, E.ev tm y with
    | .bool a, .bool b => some (.bool (if neg then !(a == b) else a == b), s)
    | _, _ => none

def x_nileq (E : Prims) (k : NK) (neg : Bool) (x : AX) (y : AX) (tm : Tm) (s : AS) : Option (AV × AS) :=
    (nileqX k (E.ev tm x) (E.ev tm y)).map fun b => (.bool (if neg then !b else b), s)

def x_aggeq (E : Prims) (neg : Bool) (ks : List KK) (x : AX) (y : AX) (tm : Tm) (s : AS) : Option (AV × AS) :=
    match E.ev tm x, E.ev tm y with
    | .agg l, .agg m => (scalEqs ks l m).map fun b => (.bool (if neg then !b else b), s)
    | _, _ => none

def x_un (E : Prims) (op : UnOp) (x : AX) (tm : Tm) (s : AS) : Option (AV × AS) :=
    match op, E.ev tm x with
    | .neg, .int k n => some (.int k (k.wrap (0 - n)), s)
    | .xor, .int k n => some (.int k (k.wrap (BitVec.ofInt k.bits (if k.signed then -1 else k.max) ^^^ BitVec.ofInt k.bits n).toNat), s)
    | .not, .bool b => some (.bool !b, s)
    | _, _ => none

def x_conv (E : Prims) (k : IntKind) (x : AX) (tm : Tm) (s : AS) : Option (AV × AS) :=
    match E.ev tm x with
    | .int _ n => some (.int k (k.wrap n), s)
    | _ => none

def x_smov (E : Prims) (x : AX) (tm : Tm) (s : AS) : Option (AV × AS) :=
    match E.ev tm x with
    | .str t => some (.str t, s)
    | _ => none

def x_b2s (E : Prims) (x : AX) (tm : Tm) (s : AS) : Option (AV × AS) :=
    match E.ev tm x with
    | .slice none _ _ => some (.str [], s)
    | .slice (some (b, o)) l _ => (x_loads E s b o l).bind fun cs => (bytesOf cs).map fun t => (.str t, s)
    | _ => none

def x_mkI (E : Prims) (t : TypeId) (x : AX) (tm : Tm) (s : AS) : Option (AV × AS) :=
    some (.iface t (E.ev tm x), s)

def x_mkF (E : Prims) (fn : Fn) (first : List AX) (caps : List AX) (tm : Tm) (s : AS) : Option (AV × AS) :=
    some (.func fn (first.map (E.ev tm)) (caps.map (E.ev tm)), s)

def x_slS (E : Prims) (x : AX) (lo : Option AX) (hi : Option AX) (tm : Tm) (s : AS) : Option (AV × AS) :=
    match E.ev tm x with
    | .str t =>
      match bounds t.length t.length (lo.map (E.ev tm)) (hi.map (E.ev tm)) none with
      | some (l, h, _) => some (.str ((t.drop l).take (h - l)), s)
      | none => none
    | _ => none

def x_slV (E : Prims) (esz : Nat) (x : AX) (lo : Option AX) (hi : Option AX) (mx : Option AX) (tm : Tm) (s : AS) : Option (AV × AS) :=
    match E.ev tm x with
    | .slice a len cap =>
      match bounds len cap (lo.map (E.ev tm)) (hi.map (E.ev tm)) (mx.map (E.ev tm)) with
      | some (l, h, m) =>
        match a with
        | none => some (.slice none (h - l) (m - l), s)
        | some (b, o) =>
          match E.get s b with
          | some (.cells _ esz' ex _ _) => if ex || esz' == esz then some (.slice (some (b, o + l * esz)) (h - l) (m - l), s) else none
          | _ => none
      | none => none
    | _ => none

def x_slA (E : Prims) (n : Nat) (esz : Nat) (x : AX) (lo : Option AX) (hi : Option AX) (mx : Option AX) (tm : Tm) (s : AS) : Option (AV × AS) :=
    match E.ev tm x with
    | .ptr (some (b, o)) =>
      match bounds n n (lo.map (E.ev tm)) (hi.map (E.ev tm)) (mx.map (E.ev tm)) with
      | some (l, h, m) => some (.slice (some (b, o + l * esz)) (h - l) (m - l), s)
      | none => none
    | _ => none

def x_fadr (E : Prims) (off : Nat) (x : AX) (tm : Tm) (s : AS) : Option (AV × AS) :=
    match E.ev tm x with
    | .ptr (some (b, o)) => some (.ptr (some (b, o + off)), s)
    | _ => none

def x_fld (E : Prims) (agg : Bool) (off : Nat) (sz : Nat) (x : AX) (tm : Tm) (s : AS) : Option (AV × AS) :=
    match E.ev tm x with
    | .agg cs =>
      if agg then (takeX sz (cs.drop off)).map fun l => (.agg l, s) else (cs[off]?).map fun v => (v, s)
    | _ => none

def x_iadrA (E : Prims) (n : Nat) (esz : Nat) (x : AX) (i : AX) (tm : Tm) (s : AS) : Option (AV × AS) :=
    match E.ev tm x, E.ev tm i with
    | .ptr (some (b, o)), .int _ j => if 0 ≤ j ∧ j < n then some (.ptr (some (b, o + j.toNat * esz)), s) else none
    | _, _ => none

def x_iadrS (E : Prims) (esz : Nat) (x : AX) (i : AX) (tm : Tm) (s : AS) : Option (AV × AS) :=
    match E.ev tm x, E.ev tm i with
    | .slice (some (b, o)) l _, .int _ j => if 0 ≤ j ∧ j < l then some (.ptr (some (b, o + j.toNat * esz)), s) else none
    | _, _ => none

def x_ixA (E : Prims) (n : Nat) (agg : Bool) (esz : Nat) (x : AX) (i : AX) (tm : Tm) (s : AS) : Option (AV × AS) :=
    match E.ev tm x, E.ev tm i with
    | .agg cs, .int _ j =>
      if 0 ≤ j ∧ j < n then
        if agg then (takeX esz (cs.drop (j.toNat * esz))).map fun l => (.agg l, s) else (cs[j.toNat * esz]?).map fun v => (v, s)
      else none
    | _, _ => none

def x_ixS (E : Prims) (x : AX) (i : AX) (tm : Tm) (s : AS) : Option (AV × AS) :=
    match E.ev tm x, E.ev tm i with
    | .str t, .int _ j => if 0 ≤ j then (t[j.toNat]?).map fun b => (.int .u8 b.toNat, s) else none
    | _, _ => none

def x_look (E : Prims) (kk : KK) (z : AV) (ok : Bool) (m : AX) (k : AX) (tm : Tm) (s : AS) : Option (AV × AS) :=
    match E.ev tm m with
    | .map none => some (if ok then .tuple [z, .bool false] else z, s)
    | .map (some r) =>
      match E.get s r with
      | some (.map es) =>
        match findX kk (E.ev tm k) es 0 with
        | some (some (_, v)) => some (if ok then .tuple [v, .bool true] else v, s)
        | some none => some (if ok then .tuple [z, .bool false] else z, s)
        | none => none
      | _ => none
    | _ => none

def x_mupd (E : Prims) (kk : KK) (m : AX) (k : AX) (v : AX) (tm : Tm) (s : AS) : Option (AV × AS) :=
    match E.ev tm m with
    | .map (some r) =>
      match E.get s r with
      | some (.map es) =>
        match findX kk (E.ev tm k) es 0 with
        | some (some (i, _)) => some (AV.undef, E.put s r (.map (es.set i (E.ev tm k, E.ev tm v))))
        | some none => some (AV.undef, E.put s r (.map (es ++ [(E.ev tm k, E.ev tm v)])))
        | none => none
      | _ => none
    | _ => none

def x_extr (E : Prims) (x : AX) (i : Nat) (tm : Tm) (s : AS) : Option (AV × AS) :=
    match E.ev tm x with
    | .tuple vs => (vs[i]?).map fun v => (v, s)
    | _ => none

def x_len (E : Prims) (k : LK) (x : AX) (tm : Tm) (s : AS) : Option (AV × AS) :=
    match k, E.ev tm x with
    | .str, .str t => some (.int .i64 t.length, s)
    | .sl, .slice _ l _ => some (.int .i64 l, s)
    | .mp, .map none => some (.int .i64 0, s)
    | .mp, .map (some r) =>
      match E.get s r with
      | some (.map es) => some (.int .i64 es.length, s)
      | _ => none
    | _, _ => none

def x_lenC (n : Nat) (_ : Tm) (s : AS) : Option (AV × AS) :=
    some (.int .i64 n, s)

def x_cap (E : Prims) (x : AX) (tm : Tm) (s : AS) : Option (AV × AS) :=
    match E.ev tm x with
    | .slice none _ c => some (.int .i64 c, s)
    | .slice (some (b, o)) _ c =>
      match E.get s b with
      | some (.cells cs esz ex _ _) => if ex || !(o + c * esz == cs.length) then some (.int .i64 c, s) else none
      | _ => none
    | _ => none

def x_app (E : Prims) (esz : Nat) (bytes : Nat) (el : TypeId) (sv : AX) (x : AX) (tm : Tm) (s : AS) : Option (AV × AS) :=
    x_appX E esz bytes el s (E.ev tm sv) (E.ev tm x)

def x_copy (E : Prims) (esz : Nat) (d : AX) (src : AX) (tm : Tm) (s : AS) : Option (AV × AS) :=
    match E.ev tm d, srcLen (E.ev tm src) with
    | .slice base dl _, some sl =>
      let n := min sl dl
      match x_src E s esz n (E.ev tm src) with
      | none => none
      | some cs =>
        if !(cs.length == n * esz) then none else
        match base with
        | none => some (.int .i64 n, s)
        | some (b, o) => (x_stores E s b o cs).map fun s' => (.int .i64 n, s')
    | _, _ => none

def x_mnmx (E : Prims) (mx : Bool) (x : AX) (xs : List AX) (tm : Tm) (s : AS) : Option (AV × AS) :=
    (foldX mx (E.ev tm x) (xs.map (E.ev tm))).map fun v => (v, s)

def x_clrM (E : Prims) (m : AX) (tm : Tm) (s : AS) : Option (AV × AS) :=
    match E.ev tm m with
    | .map none => some (.tuple [], s)
    | .map (some r) =>
      match E.get s r with
      | some (.map _) => some (.tuple [], E.put s r (.map []))
      | _ => none
    | _ => none

def x_clrS (E : Prims) (z : List AV) (sv : AX) (tm : Tm) (s : AS) : Option (AV × AS) :=
    match E.ev tm sv with
    | .slice none _ _ => some (.tuple [], s)
    | .slice (some (b, o)) l _ => if l = 0 then some (.tuple [], s) else (x_stores E s b o (repX z l)).map fun s' => (.tuple [], s')
    | _ => none

def x_del (E : Prims) (kk : KK) (m : AX) (k : AX) (tm : Tm) (s : AS) : Option (AV × AS) :=
    match E.ev tm m with
    | .map none => some (.tuple [], s)
    | .map (some r) =>
      match E.get s r with
      | some (.map es) =>
        match findX kk (E.ev tm k) es 0 with
        | some (some (i, _)) => some (.tuple [], E.put s r (.map (es.eraseIdx i)))
        | some none => some (.tuple [], s)
        | none => none
      | _ => none
    | _ => none


def x_usd (E : Prims) (x : AX) (tm : Tm) (s : AS) : Option (AV × AS) :=
    match E.ev tm x with
    | .slice none _ _ => some (.ptr none, s)
    | .slice (some (b, o)) _ c => if c = 0 then none else some (.ptr (some (b, o)), s)
    | _ => none

def x_ustr (E : Prims) (el : TypeId) (p : AX) (n : AX) (tm : Tm) (s : AS) : Option (AV × AS) :=
    match E.ev tm p, E.ev tm n with
    | .ptr pa, .int .i64 n =>
      if n = 0 then some (.str [], s) else
      match pa with
      | none => none
      | some (b, o) =>
        match E.get s b with
        | some (.cells cs _ _ false (some el')) =>
          if el' = el ∧ 0 ≤ n ∧ n ≤ 70368744177664 then
            match takeX n.toNat (cs.drop o) with
            | some l =>
              match bytesOf l with
              | some t => some (.str t, E.kill s b)
              | none => none
            | none => none
          else none
        | _ => none
    | _, _ => none

def x_buildSl (E : Prims) (z : List AV) (len esz : Nat) (ps : List (Nat × Nat × AX)) (tm : Tm) (s : AS) : Option (AV × AS) :=
  match x_fill E tm z ps with
  | some cs => some (.slice (some (s.nx, 0)) len len, E.new s (.cells cs esz true false none))
  | none => none

def x_s2b (E : Prims) (x : AX) (tm : Tm) (s : AS) : Option (AV × AS) :=
  match E.ev tm x with
  | .str t => if t.length < 70368744177664 then some (.slice (some (s.nx, 0)) t.length t.length, E.new s (.cells (t.map fun b => AV.int .u8 b.toNat) 1 false false none)) else none
  | _ => none

def x_mkS (E : Prims) (z : List AV) (esz bytes : Nat) (len cap : AX) (tm : Tm) (s : AS) : Option (AV × AS) :=
  match E.ev tm len, E.ev tm cap with
  | .int .i64 l, .int .i64 c =>
    if 0 ≤ l ∧ l ≤ c ∧ c * bytes ≤ 140737488355328 ∧ c ≤ 140737488355328 then some (.slice (some (s.nx, 0)) l.toNat c.toNat, E.new s (.cells (repX z c.toNat) esz true false none)) else none
  | _, _ => none

def x_callV (E : Prims) (call : ACall) (x : AX) (args : List AX) (tm : Tm) (s : AS) : Option (AV × AS) :=
  match E.ev tm x with
  | .func (.func f) first caps => call f (first ++ args.map (E.ev tm) ++ caps) s
  | _ => none

def x_inv (E : Prims) (call : ACall) (tbl : List (TypeId × FuncId)) (x : AX) (args : List AX) (tm : Tm) (s : AS) : Option (AV × AS) :=
  match E.ev tm x with
  | .iface t v =>
    match tbl.find? (·.1 == t) with
    | some (_, f) => call f (v :: args.map (E.ev tm)) s
    | none => none
  | _ => none

/-- An operation, a call among them. -/
noncomputable def kop (E : Prims) (call : ACall) (op : AOp) : Tm → AS → Option (AV × AS) :=
  @AOp.rec (fun _ => Tm → AS → Option (AV × AS))
    (x_mov E)
    (x_pick E)
    (fun z esz el _ s => some (.ptr (some (s.nx, 0)), E.new s (.cells z esz true false (some el))))
    (fun x esz tm s => some (.ptr (some (s.nx, 0)), E.new s (.cells (E.ev tm x).cells esz true false none)))
    (x_build E)
    (x_buildSl E)
    (x_load E)
    (x_store E)
    (x_nilck E)
    (x_nilckM E)
    (x_ibin E)
    (x_sbin E)
    (x_bbin E)
    (x_nileq E)
    (x_aggeq E)
    (x_un E)
    (x_conv E)
    (x_smov E)
    (x_s2b E)
    (x_b2s E)
    (x_mkI E)
    (x_mkF E)
    (fun _ s => some (.map (some s.nx), E.new s (.map [])))
    (x_mkS E)
    (x_slS E)
    (x_slV E)
    (x_slA E)
    (x_fadr E)
    (x_fld E)
    (x_iadrA E)
    (x_iadrS E)
    (x_ixA E)
    (x_ixS E)
    (x_look E)
    (x_mupd E)
    (x_extr E)
    (x_len E)
    x_lenC
    (x_cap E)
    (x_app E)
    (x_copy E)
    (x_mnmx E)
    (x_clrM E)
    (x_clrS E)
    (x_del E)
    (x_usd E)
    (x_ustr E)
    (fun f args tm s => call f (args.map (E.ev tm)) s)
    (x_callV E call)
    (x_inv E call)
    (fun _ _ => none)
    op


end Go.Ai

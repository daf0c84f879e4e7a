/- The kernel's form of the abstract interpreter: code, functions, calls; and that it is the abstract interpreter. -/
import Derived.Test.YtcjfijmbdoiaiaaGreatDoorRbAi23
set_option linter.unusedSimpArgs false
set_option linter.unusedVariables false
namespace Go.Ai

theorem kop_eq (call : ACall) (op : AOp) (tm : Tm) (s : AS) : kop aprims call op tm s = aoper call tm s op := by
  cases op <;> try rfl
  case build z ps =>
    show x_build aprims z ps tm s = _
    unfold x_build
    rw [x_fill_eq]
    rfl
  case buildSl z len esz ps =>
    show x_buildSl aprims z len esz ps tm s = _
    simp only [x_buildSl, aoper, acallee, aalloc, x_fill_eq]
    cases fillX tm z ps <;> rfl
  case s2b x =>
    show x_s2b aprims x tm s = _
    have hn : aop tm s (.s2b x) = none := rfl
    simp only [x_s2b, aoper, acallee, aalloc, hn]
    show (match x.ev tm with
      | .str t => _
      | _ => none) = _
    cases x.ev tm <;> first | rfl | skip
    rename_i l
    simp only
    split <;> rfl
  case mkS z esz bytes l c =>
    show x_mkS aprims z esz bytes l c tm s = _
    have hn : aop tm s (.mkS z esz bytes l c) = none := rfl
    simp only [x_mkS, aoper, acallee, aalloc, hn]
    have e : ∀ x, aprims.ev tm x = x.ev tm := fun _ => rfl
    rw [e, e]
    generalize l.ev tm = u
    generalize c.ev tm = v
    split
    · rename_i l' c'
      simp only
      split <;> rfl
    · rename_i hno
      split
      · rename_i blk mk hm
        split at hm
        · rename_i l' c'
          exact absurd rfl (hno l' c' rfl)
        · cases hm
      · rfl
  case callV x args =>
    show x_callV aprims call x args tm s = _
    have hn : aop tm s (.callV x args) = none := rfl
    have ha : aalloc tm (.callV x args) = none := rfl
    simp only [x_callV, aoper, acallee, hn, ha]
    have e : ∀ x, aprims.ev tm x = x.ev tm := fun _ => rfl
    rw [e]
    have e2 : aprims.ev tm = AX.ev tm := rfl
    rw [e2]
    generalize x.ev tm = u
    split
    · rfl
    · rename_i hno
      split
      · rename_i f vs hm
        split at hm
        · rename_i f first caps
          exact absurd rfl (hno f first caps)
        · cases hm
      · rfl
  case inv tbl x args =>
    show x_inv aprims call tbl x args tm s = _
    have hn : aop tm s (.inv tbl x args) = none := rfl
    have ha : aalloc tm (.inv tbl x args) = none := rfl
    simp only [x_inv, aoper, acallee, hn, ha]
    have e : ∀ x, aprims.ev tm x = x.ev tm := fun _ => rfl
    rw [e]
    have e2 : aprims.ev tm = AX.ev tm := rfl
    rw [e2]
    generalize x.ev tm = u
    cases u <;> try rfl
    rename_i t v
    simp only
    generalize tbl.find? (fun p => p.1 == t) = r
    cases r with
    | none => rfl
    | some p => rfl

def kwanted (E : Prims) (o : AOper) (tm : Tm) : Bool :=
  match o.guard with
  | none => true
  | some (d, want) =>
    match E.ev tm (.tmp d) with
    | .bool b => b == want
    | _ => false

noncomputable def kops (E : Prims) (call : ACall) (l : List AOper) : Tm → AS → Option (Tm × AS) :=
  @List.rec AOper (fun _ => Tm → AS → Option (Tm × AS)) (fun tm s => some (tm, s))
    (fun o _ ih tm s =>
      match kwanted E o tm with
      | true =>
        match kop E call o.op tm s with
        | some (v, s') => ih (E.tput tm o.dst v) s'
        | none => none
      | false => ih (E.tput tm o.dst AV.undef) s) l

theorem kops_eq (call : ACall) : ∀ (l : List AOper) (tm : Tm) (s : AS), kops aprims call l tm s = aops call l tm s
  | [], _, _ => rfl
  | o :: r, tm, s => by
    show (match kwanted aprims o tm with
      | true =>
        match kop aprims call o.op tm s with
        | some (v, s') => kops aprims call r (tm.put o.dst v) s'
        | none => none
      | false => kops aprims call r (tm.put o.dst AV.undef) s) = _
    have hw : kwanted aprims o tm = o.wanted tm := rfl
    simp only [aops, kop_eq, hw]
    cases o.wanted tm with
    | true =>
      simp only [if_true]
      cases aoper call tm s o.op with
      | none => rfl
      | some p => exact kops_eq call r _ _
    | false => simp only [Bool.false_eq_true, if_false]; exact kops_eq call r _ _

noncomputable def kloop (body : Tm → AS → Option (AE × Tm × AS)) (n : Nat) : Tm → AS → Option (AE × Tm × AS) :=
  @Nat.rec (fun _ => Tm → AS → Option (AE × Tm × AS)) (fun _ _ => none)
    (fun _ ih tm s =>
      match body tm s with
      | some (.normal, tm', s') => ih tm' s'
      | r => r) n

theorem kloop_eq (body : Tm → AS → Option (AE × Tm × AS)) : ∀ (n : Nat) (tm : Tm) (s : AS), kloop body n tm s = aloop body n tm s
  | 0, _, _ => rfl
  | n + 1, tm, s => by
    show (match body tm s with
      | some (.normal, tm', s') => kloop body n tm' s'
      | r => r) = _
    simp only [aloop]
    cases body tm s with
    | none => rfl
    | some x =>
      obtain ⟨e, tm', s'⟩ := x
      cases e <;> first | exact kloop_eq body n _ _ | rfl

noncomputable def kexec (E : Prims) (call : ACall) (N : Nat) (c : AC) : Tm → AS → Option (AE × Tm × AS) :=
  @AC.rec (fun _ => Tm → AS → Option (AE × Tm × AS))
    (fun tm s => some (.normal, tm, s))
    (fun ops tm s =>
      match kops E call ops tm s with
      | some (tm', s') => some (.normal, tm', s')
      | none => none)
    (fun ops bef tm s =>
      match adraw call ops bef tm s with
      | some (tm', s') => some (.normal, tm', s')
      | none => none)
    (fun _ _ iha ihb tm s =>
      match iha tm s with
      | some (.normal, tm', s') => ihb tm' s'
      | r => r)
    (fun c _ _ iha ihb tm s =>
      match E.ev tm c with
      | .bool true => iha tm s
      | .bool false => ihb tm s
      | _ => none)
    (fun id _ ih tm s =>
      match ih tm s with
      | some (.exit id', tm', s') => if id' = id then some (.normal, tm', s') else some (.exit id', tm', s')
      | r => r)
    (fun _ ih tm s => kloop ih N tm s)
    (fun id tm s => some (.exit id, tm, s))
    (fun tm s => some (.ret, tm, s))
    (fun _ _ => none)
    c

theorem kexec_eq (call : ACall) (N : Nat) (c : AC) : ∀ (tm : Tm) (s : AS), kexec aprims call N c tm s = aexec call N c tm s := by
  induction c with
  | region ops => intro tm s; simp only [aexec, ← kops_eq]; rfl
  | seq a b iha ihb =>
    intro tm s
    simp only [aexec, ← iha]
    show (match kexec aprims call N a tm s with
      | some (.normal, tm', s') => kexec aprims call N b tm' s'
      | r => r) = _
    cases kexec aprims call N a tm s with
    | none => rfl
    | some x =>
      obtain ⟨e, tm', s'⟩ := x
      cases e <;> first | exact ihb _ _ | rfl
  | cond c a b iha ihb =>
    intro tm s
    simp only [aexec, ← iha, ← ihb]
    rfl
  | block id b ih =>
    intro tm s
    simp only [aexec, ← ih]
    rfl
  | loop b ih =>
    intro tm s
    simp only [aexec]
    rw [← kloop_eq]
    have : aexec call N b = kexec aprims call N b := by funext tm s; rw [ih]
    rw [this]
    rfl
  | _ => intro tm s; rfl

noncomputable def kinit (E : Prims) : Nat → List AV → Tm → Tm
  | _, [], tm => tm
  | k, v :: l, tm => kinit E (k + 1) l (E.tput tm (some k) v)

theorem kinit_eq : ∀ (l : List AV) (k : Nat) (tm : Tm), kinit aprims k l tm = initTm k l tm
  | [], _, _ => rfl
  | v :: l, k, tm => by simp only [kinit, initTm]; exact kinit_eq l _ _

noncomputable def kfn (E : Prims) (call : ACall) (N : Nat) (fn : AFn) (args : List AV) (s : AS) : Option (AV × AS) :=
  match Nat.blt fn.ntmps args.length with
  | true => none
  | false =>
    match kexec E call N fn.body (kinit E 0 args .leaf) s with
    | some (.normal, tm, s') => (ares tm s' fn.res).map fun vs => (retV vs, s')
    | some (.ret, tm, s') => (ares tm s' fn.res).map fun vs => (retV vs, s')
    | _ => none

theorem kfn_eq (call : ACall) (N : Nat) (fn : AFn) (args : List AV) (s : AS) : kfn aprims call N fn args s = afn call N fn args s := by
  unfold kfn afn
  rw [kexec_eq, kinit_eq]
  by_cases h : fn.ntmps < args.length
  · have : Nat.blt fn.ntmps args.length = true := by rw [Nat.blt_eq]; exact h
    rw [this, if_pos h]
  · have : Nat.blt fn.ntmps args.length = false := by
      cases hb : Nat.blt fn.ntmps args.length with
      | false => rfl
      | true => rw [Nat.blt_eq] at hb; exact absurd hb h
    rw [this, if_neg h]
    rfl

/-- Calls: what is said of a function, else its text. -/
noncomputable def kcall (E : Prims) (F : FuncId → Option AFn) (S : FuncId → Option ASum) (N : Nat) (k : Nat) : ACall :=
  @Nat.rec (fun _ => ACall) (fun _ _ _ => none)
    (fun _ ih f args s =>
      match S f with
      | some g => g args s
      | none =>
        match F f with
        | some fn => kfn E ih N fn args s
        | none => none) k

theorem kcall_succ (E : Prims) (F : FuncId → Option AFn) (S : FuncId → Option ASum) (N k : Nat) (f : FuncId) (args : List AV) (s : AS) : kcall E F S N (k + 1) f args s =
    (match S f with
      | some g => g args s
      | none =>
        match F f with
        | some fn => kfn E (kcall E F S N k) N fn args s
        | none => none) := rfl

theorem acall_succ (F : FuncId → Option AFn) (S : FuncId → Option ASum) (N k : Nat) (f : FuncId) (args : List AV) (s : AS) : acall F S N (k + 1) f args s =
    (match S f with
      | some g => g args s
      | none =>
        match F f with
        | some fn => afn (acall F S N k) N fn args s
        | none => none) := rfl

theorem kcall_aprims (F : FuncId → Option AFn) (S : FuncId → Option ASum) (N : Nat) : ∀ k, kcall aprims F S N k = acall F S N k := by
  intro k
  induction k with
  | zero => rfl
  | succ k ih =>
    funext f args s
    rw [kcall_succ, acall_succ, ih]
    cases S f with
    | some g => rfl
    | none =>
      cases F f with
      | none => rfl
      | some fn => exact kfn_eq _ _ _ _ _

/-- The kernel's form answers as the abstract interpreter does. -/
theorem kcall_eq (F : FuncId → Option AFn) (S : FuncId → Option ASum) (N k : Nat) : kcall kprims F S N k = acall F S N k := by
  rw [kprims_eq]; exact kcall_aprims F S N k

end Go.Ai

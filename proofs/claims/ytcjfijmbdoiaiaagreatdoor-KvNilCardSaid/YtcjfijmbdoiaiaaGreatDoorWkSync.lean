/- (*dev.Dev).Sync: the range over what waits. -/
import Derived.Test.YtcjfijmbdoiaiaaGreatDoorWkFn
set_option linter.unusedSimpArgs false
set_option linter.unusedVariables false
namespace Go.Ai

/- (*rollbook/dev.Dev).Sync -/
def A_dev_Dev_Syncr0 : List AOper := [
    ⟨(some 2), .mov (.const (.int .i64 0)), none⟩]
def A_dev_Dev_Syncr1 : List AOper := [
    ⟨(some 6), .mov (.tmp 0), none⟩,
    ⟨(some 7), .nileq .ptr false (.tmp 6) (.const (.ptr none)), none⟩,
    ⟨(some 5), .mov (.tmp 7), none⟩]
def A_dev_Dev_Syncr2 : List AOper := [
    ⟨(some 2), .mov (.const (.int .i64 2)), none⟩]
def A_dev_Dev_Syncr3 : List AOper := [
    ⟨(some 9), .mov (.tmp 0), none⟩,
    ⟨(some 10), .call 173 [(.tmp 9)], none⟩,
    ⟨(some 11), .un .not (.tmp 10), none⟩,
    ⟨(some 8), .mov (.tmp 11), none⟩]
def A_dev_Dev_Syncr4 : List AOper := [
    ⟨(some 2), .mov (.const (.int .i64 6)), none⟩]
def A_dev_Dev_Syncc5 : AC := (.block 0 (.seq (.region A_dev_Dev_Syncr1) (.cond (.tmp 5) (.seq (.region A_dev_Dev_Syncr2) .ret) (.seq (.region A_dev_Dev_Syncr3) (.cond (.tmp 8) (.seq (.region A_dev_Dev_Syncr4) .ret) .skip)))))
def A_dev_Dev_Syncr6 : List AOper := [
    ⟨(some 12), .mov (.tmp 0), none⟩,
    ⟨(some 13), .nilck (.tmp 12), none⟩,
    ⟨(some 14), .fadr 1 (.tmp 13), none⟩,
    ⟨(some 15), .load false 1 (.tmp 14), none⟩,
    ⟨(some 16), .bad, none⟩]
def A_dev_Dev_Syncr7 : List AOper := [
    ⟨(some 17), .bad, none⟩,
    ⟨(some 18), .extr (.tmp 17) 0, none⟩]
def A_dev_Dev_Syncr8 : List AOper := [
    ⟨(some 19), .bad, none⟩,
    ⟨(some 20), .extr (.tmp 19) 0, none⟩,
    ⟨(some 21), .extr (.tmp 19) 1, none⟩,
    ⟨(some 3), .mov (.tmp 20), none⟩,
    ⟨(some 4), .mov (.tmp 21), none⟩]
def A_dev_Dev_Syncr9 : List AOper := [
    ⟨(some 22), .mov (.tmp 0), none⟩,
    ⟨(some 23), .nilck (.tmp 22), none⟩,
    ⟨(some 24), .fadr 0 (.tmp 23), none⟩,
    ⟨(some 25), .load false 1 (.tmp 24), none⟩,
    ⟨(some 26), .mov (.tmp 3), none⟩,
    ⟨(some 27), .mov (.tmp 4), none⟩,
    ⟨(some 28), .mov (.tmp 4), none⟩,
    ⟨(some 29), .len .sl (.tmp 28), none⟩,
    ⟨(some 30), .ibin .sub (.tmp 29) (.const (.int .i64 1)), none⟩,
    ⟨(some 31), .iadrS 1 (.tmp 27) (.tmp 30), none⟩,
    ⟨(some 32), .load false 1 (.tmp 31), none⟩,
    ⟨(some 33), .iadrS 1 (.tmp 25) (.tmp 26), none⟩,
    ⟨none, .store 1 (.tmp 33) (.tmp 32), none⟩]
def A_dev_Dev_Syncc10 : AC := (.block 2 (.seq (.region A_dev_Dev_Syncr8) (.draw A_dev_Dev_Syncr9 [0, 1, 3, 7, 0, 0, 0, 64, 192, 480, 992, 2047, 4095])))
def A_dev_Dev_Syncl11 : AC := (.seq (.region A_dev_Dev_Syncr7) (.seq (.cond (.tmp 18) .skip (.exit 1)) A_dev_Dev_Syncc10))
def A_dev_Dev_Syncc12 : AC := (.block 1 (.loop A_dev_Dev_Syncl11))
def A_dev_Dev_Syncr13 : List AOper := [
    ⟨(some 34), .mov (.tmp 0), none⟩,
    ⟨(some 35), .mkM, none⟩,
    ⟨(some 36), .nilck (.tmp 34), none⟩,
    ⟨(some 37), .fadr 1 (.tmp 36), none⟩,
    ⟨none, .store 1 (.tmp 37) (.tmp 35), none⟩]
def A_dev_Dev_Syncr14 : List AOper := [
    ⟨(some 2), .mov (.const (.int .i64 0)), none⟩]
def A_dev_Dev_Sync : AFn := ⟨38, 1, [.tmp 2], (.seq (.region A_dev_Dev_Syncr0) (.seq A_dev_Dev_Syncc5 (.seq (.seq (.region A_dev_Dev_Syncr6) A_dev_Dev_Syncc12) (.seq (.region A_dev_Dev_Syncr13) (.seq (.region A_dev_Dev_Syncr14) .ret)))))⟩

/-- What the last writes are: sector by sector. -/
def lastOf (s : AS) : AV × AV → Option (Nat × AV)
  | (.int .i64 k, .slice (some (b, o)) l _) =>
    match s.loads b (o + (l - 1)) 1 with
    | some [.str t] => if 1 ≤ l ∧ l < 1099511627776 ∧ 0 ≤ k then some (k.toNat, .str t) else none
    | _ => none
  | _ => none

def lastsOf (s : AS) : List (AV × AV) → Option (List (Nat × AV))
  | [] => some []
  | e :: r =>
    match lastOf s e, lastsOf s r with
    | some x, some l => some (x :: l)
    | _, _ => none

def setAll (l : List (Nat × AV)) (cs : List AV) : List AV := l.foldl (fun cs x => cs.set x.1 x.2) cs

def nodupN : List Nat → Bool
  | [] => true
  | x :: l => !l.contains x && nodupN l

def offBlk (lb : Nat) : AV → Bool
  | .slice (some (b, _)) _ _ => decide (b ≠ lb)
  | _ => true

/-- Behind the step. -/
def syncGo (d : Nat) (s : AS) : Option (AV × AS) :=
  match s.get d with
  | some (.cells [.slice (some (lb, 0)) n n', .map (some wm), off, fuse, steps, wr] e x false el) =>
    match s.get lb, s.get wm with
    | some (.cells cs le lx false lel), some (.map es) =>
      match lastsOf s es with
      | some ls =>
        if nodupN (ls.map (·.1)) && ls.all (fun x => decide (x.1 < n)) && decide (n = cs.length) && decide (lb ≠ d) && decide (n < 1099511627776) && es.all (fun y => offBlk lb y.2) then
          some (.int .i64 0, (((s.put lb (.cells (setAll ls cs) le lx false lel)).kill wm).new (.map [])).put d (.cells [.slice (some (lb, 0)) n n', .map (some s.nx), off, fuse, steps, wr] e x false el))
        else none
      | none => none
    | _, _ => none
  | _ => none

def sumSync : ASum
  | [.ptr (some (d, 0))], s =>
    match sumStep [.ptr (some (d, 0))] s with
    | some (.bool true, s') => syncGo d s'
    | some (.bool false, s') => some (.int .i64 6, s')
    | _ => none
  | _, _ => none

def cL : Code → Code
  | .seq a _ => a
  | c => c
def cR : Code → Code
  | .seq _ b => b
  | c => c
def cI : Code → Code
  | .block _ c => c
  | .loop c => c
  | c => c
def cO : Code → Array Oper
  | .region _ o _ => o
  | _ => #[]
noncomputable def syncC : Code := (Go.Proofs.Tryz.f116.body).getD .skip
noncomputable def syncR5 : Array Oper := cO (cL (cL (cR (cR syncC))))
noncomputable def syncLoop : Code := cI (cI (cR (cL (cR (cR syncC)))))
noncomputable def syncR6 : Array Oper := cO (cL syncLoop)
noncomputable def syncR7 : Array Oper := cO (cL (cI (cR (cR syncLoop))))
noncomputable def syncBody : Code := cR (cI (cR (cR syncLoop)))
noncomputable def syncTail : Code := cR (cR (cR syncC))

theorem sync_shape : Go.Proofs.Tryz.f116.body = some (.seq (cL syncC) (.seq (cL (cR syncC)) (.seq (.seq (.region 5 syncR5 false) (.block 1 (.loop (.seq (.region 6 syncR6 false) (.seq (.cond (.tmp 18) .skip (.exit 1)) (.block 2 (.seq (.region 7 syncR7 false) syncBody))))))) syncTail))) := by kernel_rfl
theorem sync_a : comp Go.Proofs.Tryz.prog 38 (cL syncC) = .region A_dev_Dev_Syncr0 := by kernel_rfl
theorem sync_b : comp Go.Proofs.Tryz.prog 38 (cL (cR syncC)) = A_dev_Dev_Syncc5 := by kernel_rfl
theorem sync_body : comp Go.Proofs.Tryz.prog 38 syncBody = .draw A_dev_Dev_Syncr9 [0, 1, 3, 7, 0, 0, 0, 64, 192, 480, 992, 2047, 4095] := by kernel_rfl
theorem sync_tail : comp Go.Proofs.Tryz.prog 38 syncTail = (.seq (.region A_dev_Dev_Syncr13) (.seq (.region A_dev_Dev_Syncr14) .ret)) := by kernel_rfl
theorem sync_r5 : (syncR5.toList.take 4).mapM (coper Go.Proofs.Tryz.prog 38 syncR5) = some (A_dev_Dev_Syncr6.take 4) := by kernel_rfl
theorem sync_r7 : (syncR7.toList.drop 1).mapM (coper Go.Proofs.Tryz.prog 38 syncR7) = some (A_dev_Dev_Syncr8.drop 1) := by kernel_rfl
theorem sync_o1 : (syncR6[0]?.map fun o => (o.dst, o.op, o.guard)) = some (some 17, .next (.tmp 16) false, none) := by kernel_rfl
theorem sync_o0 : (syncR5[4]?.map fun o => (o.dst, o.op, o.guard)) = some (some 16, .range 154 (.tmp 15), none) := by kernel_rfl
theorem sync_o3 : (syncR7[0]?.map fun o => (o.dst, o.op, o.guard)) = some (some 19, .entry (.tmp 16), none) := by kernel_rfl
theorem sync_r6 : (syncR6.toList.drop 1).mapM (coper Go.Proofs.Tryz.prog 38 syncR6) = some [⟨some 18, .extr (.tmp 17) 0, none⟩] := by kernel_rfl
theorem sync_s6 : syncR6.size = 2 := by kernel_rfl
theorem sync_s5 : syncR5.size = 5 := by kernel_rfl

theorem setAll_len : ∀ (l : List (Nat × AV)) (cs : List AV), (setAll l cs).length = cs.length
  | [], _ => rfl
  | x :: l, cs => by
    show (setAll l (cs.set x.1 x.2)).length = _
    rw [setAll_len l, List.length_set]

theorem setAll_snoc (l : List (Nat × AV)) (x : Nat × AV) (cs : List AV) : setAll (l ++ [x]) cs = (setAll l cs).set x.1 x.2 := by
  simp [setAll]

theorem nodupN_iff : ∀ l : List Nat, nodupN l = true → l.Nodup
  | [], _ => .nil
  | x :: l, h => by
    simp only [nodupN, Bool.and_eq_true, Bool.not_eq_true'] at h
    rw [List.nodup_cons]
    refine ⟨fun hm => ?_, nodupN_iff l h.2⟩
    have : l.contains x = true := by simpa using hm
    rw [this] at h
    cases h.1

theorem lastsOf_get (s : AS) : ∀ (es : List (AV × AV)) (ls : List (Nat × AV)), lastsOf s es = some ls → ls.length = es.length ∧ ∀ (j : Nat) (e : AV × AV), es[j]? = some e → ∃ x, ls[j]? = some x ∧ lastOf s e = some x
  | [], ls, h => by
    simp only [lastsOf, Option.some.injEq] at h
    subst h
    exact ⟨rfl, fun j e h => by simp at h⟩
  | e :: r, ls, h => by
    simp only [lastsOf] at h
    split at h
    · rename_i x l h1 h2
      cases h
      obtain ⟨k1, k2⟩ := lastsOf_get s r l h2
      refine ⟨by simp [k1], fun j e' he => ?_⟩
      cases j with
      | zero => simp at he; subst he; exact ⟨x, rfl, h1⟩
      | succ j => simp at he; obtain ⟨y, m1, m2⟩ := k2 j e' he; exact ⟨y, by simpa using m1, m2⟩
    · cases h

theorem setAll_perm {l m : List (Nat × AV)} (hp : l.Perm m) (hn : (l.map (·.1)).Nodup) (cs : List AV) : setAll l cs = setAll m cs := by
  unfold setAll
  refine List.Perm.foldl_eq' hp (fun x hx y hy z => ?_) cs
  by_cases he : x.1 = y.1
  · have : x = y := by
      obtain ⟨i, hi⟩ := List.getElem?_of_mem hx
      obtain ⟨j, hj⟩ := List.getElem?_of_mem hy
      have l1 : (l.map (·.1))[i]? = some x.1 := by rw [List.getElem?_map, hi]; rfl
      have l2 : (l.map (·.1))[j]? = some x.1 := by rw [List.getElem?_map, hj, he]; rfl
      have q1 := (List.getElem?_eq_some_iff.1 l1).1
      have q2 := (List.getElem?_eq_some_iff.1 l2).1
      have e1 := (List.getElem?_eq_some_iff.1 l1).2
      have e2 := (List.getElem?_eq_some_iff.1 l2).2
      have : i = j := (List.getElem_inj (h₀ := q1) (h₁ := q2) hn).1 (e1.trans e2.symm)
      subst this
      rw [hi] at hj
      exact Option.some.inj hj
    subst this; rfl
  · exact List.set_comm _ _ he

theorem lastOf_some {s : AS} {e : AV × AV} {x : Nat × AV} (h : lastOf s e = some x) : ∃ (k : Nat) (b o l c : Nat) (t : List UInt8), e = (.int .i64 k, .slice (some (b, o)) l c) ∧ x = (k, .str t) ∧ 1 ≤ l ∧ l < 1099511627776 ∧ s.loads b (o + (l - 1)) 1 = some [.str t] := by
  unfold lastOf at h
  split at h
  · rename_i k b o l c
    split at h
    · rename_i t ht
      split at h
      · rename_i hc
        cases h
        refine ⟨k.toNat, b, o, l, c, t, ?_, rfl, hc.1, hc.2.1, ht⟩
        rw [Int.toNat_of_nonneg hc.2.2]
      · cases h
    · cases h
  · cases h

/-- Between the rounds. -/
def SyncI (d lb wm : Nat) (dc lc0 : ABlk) (mk : List AV → ABlk) (s1 : AS) (ls : List (Nat × AV)) (cs : List AV) (idx : List Nat) (tm : Tm) (s : AS) : Prop :=
  tm.at 0 = .ptr (some (d, 0)) ∧ s1.nx < s.nx ∧ s.get lb = some (mk (setAll (idx.filterMap (ls[·]?)) cs)) ∧ ∀ b, b < s1.nx → b ≠ lb → b ≠ wm → s.get b = s1.get b

theorem sync_step {call : ACall} {N : Nat} {d lb wm e le n n' : Nat} {x lx : Bool} {el lel : Option TypeId} {s1 : AS} {ls : List (Nat × AV)} {es : List (AV × AV)} {cs : List AV} {off fuse steps wr : AV}
    (hwf : s1.WF)
    (hd : s1.get d = some (.cells [.slice (some (lb, 0)) n n', .map (some wm), off, fuse, steps, wr] e x false el)) (hlb : s1.get lb = some (.cells cs le lx false lel)) (hwm : s1.get wm = some (.map es))
    (hls : lastsOf s1 es = some ls) (hn : (ls.map (·.1)).Nodup) (hb : ∀ y ∈ ls, y.1 < n) (hc : n = cs.length) (hdl : lb ≠ d) (hcl : n < 1099511627776) (hoff : ∀ y ∈ es, offBlk lb y.2 = true)
    (idx : List Nat) (j : Nat) (k v : AV) (tm : Tm) (s : AS) (hin : idx.Nodup) (hj : j ∉ idx) (hes : es[j]? = some (k, v)) (ht : tm.at 16 = .ptr (some (s1.nx, 0)))
    (hI : SyncI d lb wm (.buf []) (.buf []) (fun c => .cells c le lx false lel) s1 ls cs idx tm s) :
    ∃ tm1 s2 tm2 s3, aops call (A_dev_Dev_Syncr8.drop 1) (((tm.put (some 17) (.tuple [.bool true, k, v])).put (some 18) (.bool true)).put (some 19) (.tuple [k, v])) s = some (tm1, s2) ∧
      aexec call N (.draw A_dev_Dev_Syncr9 [0, 1, 3, 7, 0, 0, 0, 64, 192, 480, 992, 2047, 4095]) tm1 s2 = some (.normal, tm2, s3) ∧ tm1.at 16 = .ptr (some (s1.nx, 0)) ∧ tm2.at 16 = .ptr (some (s1.nx, 0)) ∧
      SyncI d lb wm (.buf []) (.buf []) (fun c => .cells c le lx false lel) s1 ls cs (idx ++ [j]) tm2 s3 := by
  obtain ⟨h0, hnx, hl, hk⟩ := hI
  obtain ⟨y, hy, hlo⟩ := (lastsOf_get s1 es ls hls).2 j (k, v) hes
  obtain ⟨q, b, o, l, c, t, he, rfl, hl1, hl2, hld⟩ := lastOf_some hlo
  cases he
  have hq : q < n := hb _ (List.mem_of_getElem? hy)
  have hbne : b ≠ wm ∧ b < s1.nx := by
    rw [loads_eq] at hld
    cases hg : s1.get b with
    | none => rw [hg] at hld; cases hld
    | some o' =>
      refine ⟨fun he => ?_, hwf.lt hg⟩
      subst he
      rw [hwm] at hg; cases hg; rw [hwm] at hld; cases hld
  have hwd : d ≠ wm := fun he => by subst he; rw [hd] at hwm; cases hwm
  have hdx := hwf.lt hd
  have hlx := hwf.lt hlb
  have hgd : s.get d = some (.cells [.slice (some (lb, 0)) n n', .map (some wm), off, fuse, steps, wr] e x false el) := by rw [hk d hdx (Ne.symm hdl) hwd]; exact hd
  have hlen : q < (setAll (idx.filterMap (ls[·]?)) cs).length := by rw [setAll_len]; omega
  obtain ⟨tm1, s2, h1, h2⟩ := aops_of_wpK (call := call) (N := N) (l := A_dev_Dev_Syncr8.drop 1) (tm := ((tm.put (some 17) (.tuple [.bool true, .int .i64 q, .slice (some (b, o)) l c])).put (some 18) (.bool true)).put (some 19) (.tuple [.int .i64 q, .slice (some (b, o)) l c])) (s := s)
    (E := fun _ tm' s' => s' = s ∧ tm'.at 0 = .ptr (some (d, 0)) ∧ tm'.at 16 = .ptr (some (s1.nx, 0)) ∧ tm'.at 3 = .int .i64 q ∧ tm'.at 4 = .slice (some (b, o)) l c) (by
      simp (disch := first | omega | (simp only [go_sem, Nat.reduceEqDiff, Nat.reduceAdd, Nat.reduceMul, Nat.reduceSub, Nat.reducePow, Nat.reduceDiv, Nat.reduceMod, reduceIte, reduceCtorEq, Int.reduceToNat]; done)) only [go_sem, Nat.reduceEqDiff, Nat.reduceAdd, Nat.reduceMul, Nat.reduceSub, Nat.reducePow, Nat.reduceDiv, Nat.reduceMod, reduceIte, reduceCtorEq, Int.reduceToNat, A_dev_Dev_Syncr8, List.drop_succ_cons, List.drop_zero, h0, ht])
  obtain ⟨rfl, t0, t16, t3, t4⟩ := h2
  have i1 : ((l : Int) - 1).toNat = l - 1 := by omega
  have hbl : b ≠ lb := by
    have := hoff _ (List.mem_of_getElem? hes)
    simpa [offBlk] using this
  have hld' : s2.loads b (o + (l - 1)) 1 = some [.str t] := by rw [loads_eq, hk b hbne.2 hbl hbne.1, ← loads_eq]; exact hld
  rw [loads_eq] at hld'
  have hsp := spliceX_one (.str t) _ _ hlen
  obtain ⟨e', tm2, s3, h3, h4⟩ := aexec_of_wpK (call := call) (N := N) (c := .draw A_dev_Dev_Syncr9 [0, 1, 3, 7, 0, 0, 0, 64, 192, 480, 992, 2047, 4095]) (tm := tm1) (s := s2)
    (E := fun e' tm' s' => e' = .normal ∧ tm'.at 0 = .ptr (some (d, 0)) ∧ tm'.at 16 = .ptr (some (s1.nx, 0)) ∧ s' = (s2.bump 13).put lb (.cells ((setAll (idx.filterMap (ls[·]?)) cs).set q (.str t)) le lx false lel)) (by
      refine wpK_draw _ _ ?_
      simp (disch := first | omega | (simp only [go_sem, Nat.reduceEqDiff, Nat.reduceAdd, Nat.reduceMul, Nat.reduceSub, Nat.reducePow, Nat.reduceDiv, Nat.reduceMod, reduceIte, reduceCtorEq, Int.reduceToNat]; done)) only [go_sem, Nat.reduceEqDiff, Nat.reduceAdd, Nat.reduceMul, Nat.reduceSub, Nat.reducePow, Nat.reduceDiv, Nat.reduceMod, reduceIte, reduceCtorEq, Int.reduceToNat, A_dev_Dev_Syncr9, t0, t16, t3, t4, hgd, hl, i1, hld', hsp])
  obtain ⟨rfl, u0, u16, rfl⟩ := h4
  refine ⟨tm1, s2, tm2, _, h1, h3, t16, u16, u0, ?_, ?_, ?_⟩
  · simp only [nx_put, nx_bump]; omega
  · rw [get_put_same, List.filterMap_append, List.filterMap_cons, hy]
    simp only [List.filterMap_nil]
    rw [setAll_snoc]
  · intro b' h1' h2' h3'
    rw [get_put_ne _ _ _ _ h2', get_bump]
    exact hk b' h1' h2' h3'


theorem setAll_los (n : Nat) : ∀ (ls : List (Nat × AV)) (cs : List AV), AV.los n cs → (∀ x ∈ ls, x.2.lo n) → AV.los n (setAll ls cs)
  | [], _, h, _ => h
  | x :: l, cs, h, hl => by
    show AV.los n (setAll l (cs.set x.1 x.2))
    refine setAll_los n l _ ?_ (fun y hy => hl y (by simp [hy]))
    rw [AV.los_iff] at h ⊢
    intro v hv
    rcases List.mem_or_eq_of_mem_set hv with h1 | rfl
    · exact h v h1
    · exact hl x (by simp)

theorem range_perm {n : Nat} {l : List Nat} (hn : l.Nodup) (h1 : ∀ i ∈ l, i < n) (h2 : ∀ i, i < n → i ∈ l) : l.Perm (List.range n) := by
  rw [List.perm_ext_iff_of_nodup hn List.nodup_range]
  intro i
  rw [List.mem_range]
  exact ⟨h1 i, h2 i⟩

theorem filterMap_range {α : Type} : ∀ l : List α, (List.range l.length).filterMap (l[·]?) = l
  | [] => rfl
  | x :: l => by
    rw [List.length_cons, List.range_succ_eq_map, List.filterMap_cons]
    simp only [List.getElem?_cons_zero, List.filterMap_map]
    congr 1
    exact filterMap_range l

theorem lastsOf_str (s : AS) : ∀ (es : List (AV × AV)) (ls : List (Nat × AV)), lastsOf s es = some ls → ∀ x ∈ ls, ∃ t, x.2 = .str t
  | [], ls, h => by
    simp only [lastsOf, Option.some.injEq] at h
    subst h
    intro x hx; cases hx
  | e :: r, ls, h => by
    simp only [lastsOf] at h
    split at h
    · rename_i x l h1 h2
      cases h
      intro y hy
      rcases List.mem_cons.1 hy with rfl | hy
      · obtain ⟨k, b, o, l', c, t, _, rfl, _⟩ := lastOf_some h1
        exact ⟨t, rfl⟩
      · exact lastsOf_str s r l h2 y hy
    · cases h

theorem fn_dev_Dev_Sync : FnIs Go.Proofs.Tryz.prog 116 A_dev_Dev_Sync := ⟨by kernel_rfl, Go.Proofs.Tryz.f116, Go.Proofs.Tryz.func116, by kernel_rfl⟩

theorem sync_false {d : Nat} {s s1 : AS} (hst : SumOK Go.Proofs.Tryz.prog 173 sumStep) (hs : sumStep [.ptr (some (d, 0))] s = some (.bool false, s1)) : Ev Go.Proofs.Tryz.prog 116 [.ptr (some (d, 0))] s (.int .i64 6) s1 := by
  refine fn_dev_Dev_Sync.ev mix (t := [(173, sumStep)]) (by simpa using hst) (N := 10) fun _ _ => ?_
  obtain ⟨r, s', h, rfl, rfl⟩ := afn_of_wpK (call := scall [(173, sumStep)]) (N := 10) (fn := A_dev_Dev_Sync) (args := [.ptr (some (d, 0))]) (s := s) (R := fun r s' => r = .int .i64 6 ∧ s' = s1) (Nat.le_of_ble_eq_true rfl) (by
    simp (disch := first | omega | (simp only [go_sem, Nat.reduceEqDiff, Nat.reduceAdd, Nat.reduceMul, Nat.reduceSub, Nat.reducePow, Nat.reduceDiv, Nat.reduceMod, reduceIte, reduceCtorEq, Int.reduceToNat]; done)) only [go_sem, Nat.reduceEqDiff, Nat.reduceAdd, Nat.reduceMul, Nat.reduceSub, Nat.reducePow, Nat.reduceDiv, Nat.reduceMod, reduceIte, reduceCtorEq, Int.reduceToNat, A_dev_Dev_Sync, A_dev_Dev_Syncr0, A_dev_Dev_Syncc5, A_dev_Dev_Syncr6, A_dev_Dev_Syncc12, A_dev_Dev_Syncr13, A_dev_Dev_Syncr14, A_dev_Dev_Syncr1, A_dev_Dev_Syncr2, A_dev_Dev_Syncr3, A_dev_Dev_Syncr4, scall, hs])
  exact h

theorem sync_go {d : Nat} {s s1 s' : AS} {r : AV} (hst : SumOK Go.Proofs.Tryz.prog 173 sumStep) (hs : sumStep [.ptr (some (d, 0))] s = some (.bool true, s1)) (hgo : syncGo d s1 = some (r, s')) :
    Ev Go.Proofs.Tryz.prog 116 [.ptr (some (d, 0))] s r s' := by
  have hcall : CallOK Go.Proofs.Tryz.prog (scall [(173, sumStep)]) := scall_ok _ (by simpa using hst)
  refine ⟨fn_dev_Dev_Sync.1, fun μ w args' hg hv hR => ?_⟩
  unfold syncGo at hgo
  split at hgo
  · rename_i lb n n' wm off fuse steps wr e x el hd
    split at hgo
    · rename_i cs le lx lel es hlb hwm
      split at hgo
      · rename_i ls hls
        split at hgo
        · rename_i hc
          simp only [Bool.and_eq_true, decide_eq_true_eq, List.all_eq_true] at hc
          obtain ⟨⟨⟨⟨⟨c1, c2⟩, c3⟩, c4⟩, c5⟩, c6⟩ := hc
          have hnd := nodupN_iff _ c1
          cases hgo
          refine calls_of_wp Go.Proofs.Tryz.func116 sync_shape ?_
          have hlen := hv.length
          rw [Array.length_toList] at hlen
          have hI : Inv Go.Proofs.Tryz.prog μ s w (Go.Proofs.Tryz.f116).ntmps (initTm 0 [.ptr (some (d, 0))] .leaf) s { tmps := args' ++ Array.replicate ((Go.Proofs.Tryz.f116).ntmps - args'.size) undef, defers := [] } w :=
            ⟨by rw [Array.size_append, Array.size_replicate, hlen, Go.Proofs.Tryz.ntmps116]; rfl, rfl, μ, init_ok hv _, Stp.refl hR⟩
          rw [Go.Proofs.Tryz.ntmps116] at hI
          -- the first piece
          obtain ⟨e1, tm1, s1', q1, q2⟩ := aexec_of_wpK (call := scall [(173, sumStep)]) (N := 10) (c := comp Go.Proofs.Tryz.prog 38 (cL syncC)) (tm := initTm 0 [.ptr (some (d, 0))] .leaf) (s := s)
            (E := fun e' tm' s' => e' = .normal ∧ tm'.at 0 = .ptr (some (d, 0)) ∧ s' = s) (by
              rw [sync_a]
              simp (disch := first | omega | (simp only [go_sem, Nat.reduceEqDiff, Nat.reduceAdd, Nat.reduceMul, Nat.reduceSub, Nat.reducePow, Nat.reduceDiv, Nat.reduceMod, reduceIte, reduceCtorEq, Int.reduceToNat]; done)) only [go_sem, Nat.reduceEqDiff, Nat.reduceAdd, Nat.reduceMul, Nat.reduceSub, Nat.reducePow, Nat.reduceDiv, Nat.reduceMod, reduceIte, reduceCtorEq, Int.reduceToNat, A_dev_Dev_Syncr0])
          obtain ⟨rfl, t1, rfl⟩ := q2
          refine wp_seq (comp_ok hcall mix hg (cL syncC) _ _ _ _ .normal tm1 s1' _ hI q1 fun a1 w1 hI1 => ?_)
          -- the second
          obtain ⟨e2, tm2, s2, q3, q4⟩ := aexec_of_wpK (call := scall [(173, sumStep)]) (N := 10) (c := comp Go.Proofs.Tryz.prog 38 (cL (cR syncC))) (tm := tm1) (s := s1')
            (E := fun e' tm' s' => e' = .normal ∧ tm'.at 0 = .ptr (some (d, 0)) ∧ s' = s1) (by
              rw [sync_b]
              simp (disch := first | omega | (simp only [go_sem, Nat.reduceEqDiff, Nat.reduceAdd, Nat.reduceMul, Nat.reduceSub, Nat.reducePow, Nat.reduceDiv, Nat.reduceMod, reduceIte, reduceCtorEq, Int.reduceToNat]; done)) only [go_sem, Nat.reduceEqDiff, Nat.reduceAdd, Nat.reduceMul, Nat.reduceSub, Nat.reducePow, Nat.reduceDiv, Nat.reduceMod, reduceIte, reduceCtorEq, Int.reduceToNat, A_dev_Dev_Syncc5, A_dev_Dev_Syncr1, A_dev_Dev_Syncr3, scall, t1, hs])
          obtain ⟨rfl, t2, rfl⟩ := q4
          show (Code.seq _ _).wp _ _ a1 w1
          refine wp_seq (comp_ok hcall mix hg (cL (cR syncC)) _ _ _ _ .normal tm2 s2 _ hI1 q3 fun a2 w2 hI2 => ?_)
          show (Code.seq _ _).wp _ _ a2 w2
          have hwf : s2.WF := by obtain ⟨_, _, μ2, _, hS2⟩ := hI2; exact hS2.rel.wf
          have hnx2 : s1'.nx ≤ s2.nx := by obtain ⟨_, _, μ2, _, hS2⟩ := hI2; exact hS2.nx
          -- up to the range
          obtain ⟨tm3, s3, q5, t3, rfl, m3⟩ := aops_of_wpK (call := scall [(173, sumStep)]) (N := 10) (l := A_dev_Dev_Syncr6.take 4) (tm := tm2) (s := s2)
            (E := fun _ tm' s' => tm'.at 0 = .ptr (some (d, 0)) ∧ s' = s2 ∧ tm'.at 15 = .map (some wm)) (by
              simp (disch := first | omega | (simp only [go_sem, Nat.reduceEqDiff, Nat.reduceAdd, Nat.reduceMul, Nat.reduceSub, Nat.reducePow, Nat.reduceDiv, Nat.reduceMod, reduceIte, reduceCtorEq, Int.reduceToNat]; done)) only [go_sem, Nat.reduceEqDiff, Nat.reduceAdd, Nat.reduceMul, Nat.reduceSub, Nat.reducePow, Nat.reduceDiv, Nat.reduceMod, reduceIte, reduceCtorEq, Int.reduceToNat, A_dev_Dev_Syncr6, List.take_succ_cons, List.take_zero, t2, hd])
          refine wp_seq (wp_seq (wp_region ?_))
          rw [sync_s5, show List.range 5 = List.range' 0 (syncR5.toList.take 4).length ++ [4] by
            rw [List.length_take, Array.length_toList, sync_s5]; rfl]
          refine aops_ok' hcall hg [4] (A_dev_Dev_Syncr6.take 4) 0 (syncR5.toList.take 4) (fun i hi => by
            rw [List.length_take] at hi
            rw [List.getElem?_take, if_pos (by omega), Array.getElem?_toList, Nat.zero_add]) sync_r5 _ _ _ _ tm3 s3 hI2 q5 fun a3 w3 hI3 => ?_
          obtain ⟨o0, ho0, ho0'⟩ := Option.map_eq_some_iff.1 sync_o0
          simp only [Prod.mk.injEq] at ho0'
          obtain ⟨mb, ees, clock, μ4, hrun, hRI⟩ := RI.start hI3 m3 hwm (tI := 16) (by decide) (show Go.Proofs.Tryz.prog.underlying 154 = some (.map 3 72) by kernel_rfl) ho0'.2.1
          refine wp_op_at ho0 ho0'.2.2 hrun ?_
          rw [ho0'.1]
          obtain ⟨o1, ho1, ho1'⟩ := Option.map_eq_some_iff.1 sync_o1
          obtain ⟨o3, ho3, ho3'⟩ := Option.map_eq_some_iff.1 sync_o3
          simp only [Prod.mk.injEq] at ho1' ho3'
          obtain ⟨o2, ho2⟩ : ∃ o2, syncR6[1]? = some o2 := ⟨_, Array.getElem?_eq_getElem (by rw [sync_s6]; omega)⟩
          have hR6 : syncR6 = #[o1, o2] := by
            apply Array.ext_getElem?
            intro i
            match i with
            | 0 => rw [ho1]; rfl
            | 1 => rw [ho2]; rfl
            | k + 2 => rw [Array.getElem?_eq_none (by rw [sync_s6]; omega), Array.getElem?_eq_none (by simp)]
          have h2' := sync_r6
          rw [hR6] at h2'
          rw [← hR6] at h2'
          have hsz : w.heap.size ≤ w3.heap.size := by obtain ⟨_, _, μ3, _, hS3⟩ := hI3; exact hS3.size
          show (Code.block 1 _).wp _ _ _ _
          refine RI.loop (es := es) (ees := ees) (clock := clock) (mb := mb) (e := s3.nx) hcall mix (N := 10) hg hsz hR6 ho1'.1 ho1'.2.1 ho1'.2.2 (by rw [hR6]; rw [hR6] at h2'; exact h2') ho3 ho3'.1 ho3'.2.1 ho3'.2.2 sync_r7 (by decide) (by decide) (by decide) (by decide)
            (SyncI d lb wm (.buf []) (.buf []) (fun c => .cells c le lx false lel) s3 ls cs)
            (fun idx j k v tm s hin hj hes ht hI => by
              rw [sync_body]
              exact sync_step hwf hd hlb hwm hls hnd c2 c3 c4 c5 c6 idx j k v tm s hin hj hes ht hI)
            _ (fun idx tm s a w' hI hin hlt hall hInv => ?_) [] #[] μ4 _ _ _ _ hRI ⟨by simp only [go_sem, Nat.reduceEqDiff, Nat.reduceAdd, Nat.reduceMul, Nat.reduceSub, Nat.reducePow, Nat.reduceDiv, Nat.reduceMod, reduceIte, reduceCtorEq, Int.reduceToNat, t3], Nat.lt_succ_self _, by
              rw [get_bump, get_kill_ne _ _ _ (fun h => by subst h; rw [hlb] at hwm; cases hwm), hlb]; rfl, fun b hb1 hb2 hb3 => by rw [get_bump, get_kill_ne _ _ _ hb3]⟩
          obtain ⟨u0, unx, ulb, uk⟩ := hI
          have hll := (lastsOf_get s3 es ls hls).1
          have hperm := range_perm hin (n := ls.length) (by rw [hll]; exact hlt) (by rw [hll]; exact hall)
          have hset : setAll (idx.filterMap (ls[·]?)) cs = setAll ls cs := by
            have hp2 := hperm.filterMap (ls[·]?)
            rw [filterMap_range] at hp2
            exact (setAll_perm hp2.symm hnd cs).symm
          rw [hset] at ulb
          have hdx := hwf.lt hd
          have hlx := hwf.lt hlb
          have hwx := hwf.lt hwm
          have hwd : d ≠ wm := fun he => by subst he; rw [hd] at hwm; cases hwm
          have hlw : lb ≠ wm := fun he => by subst he; rw [hlb] at hwm; cases hwm
          have ud : s.get d = some (.cells [.slice (some (lb, 0)) n n', .map (some wm), off, fuse, steps, wr] e x false el) := by rw [uk d hdx (Ne.symm c4) hwd]; exact hd
          have hdn : d ≠ s.nx := by omega
          show (syncTail).wp _ _ a w'
          obtain ⟨e5, tm5, s5, q7, rfl, t5, rfl⟩ := aexec_of_wpK (call := scall [(173, sumStep)]) (N := 10) (c := comp Go.Proofs.Tryz.prog 38 syncTail) (tm := (tm.put (some 17) (.tuple [.bool false])).put (some 18) (.bool false)) (s := s)
            (E := fun e' tm' s' => e' = .ret ∧ tm'.at 2 = .int .i64 0 ∧ s' = (s.new (.map [])).put d (.cells [.slice (some (lb, 0)) n n', .map (some s.nx), off, fuse, steps, wr] e x false el)) (by
              rw [sync_tail]
              simp (disch := first | omega | (simp only [go_sem, Nat.reduceEqDiff, Nat.reduceAdd, Nat.reduceMul, Nat.reduceSub, Nat.reducePow, Nat.reduceDiv, Nat.reduceMod, reduceIte, reduceCtorEq, Int.reduceToNat]; done)) only [go_sem, Nat.reduceEqDiff, Nat.reduceAdd, Nat.reduceMul, Nat.reduceSub, Nat.reducePow, Nat.reduceDiv, Nat.reduceMod, reduceIte, reduceCtorEq, Int.reduceToNat, A_dev_Dev_Syncr13, A_dev_Dev_Syncr14, u0, ud])
          refine comp_ok hcall mix hg syncTail _ _ _ _ .ret tm5 _ _ hInv q7 fun a6 w6 hI6 => ?_
          obtain ⟨_, hdf, μ6, hT6, hS6⟩ := hI6
          obtain ⟨v6, k1, k2⟩ := results_ok hT6 hS6.rel (fn := Go.Proofs.Tryz.f116) (rs := [.tmp 2]) (vs := [.int .i64 0]) (by kernel_rfl) (by simp only [ares, t5]; rfl)
          refine ⟨hdf, v6, k1, ?_⟩
          have hCP : CallPost μ s1' w (.int .i64 0) _ (.returned v6) w6 := ⟨μ6, v6, rfl, k2, hS6⟩
          have hid : ∀ b, b < s3.nx → (if b = s3.nx then s.nx else b) = b := fun b hb => if_neg (by omega)
          have hdlo := hwf.lo hd
          simp only [ABlk.lo, AV.los] at hdlo
          obtain ⟨z1, z2, z3, z4, z5, z6, _⟩ := hdlo
          have key : ∀ b o, ((((s3.put lb (.cells (setAll ls cs) le lx false lel)).kill wm).new (.map [])).put d (.cells [.slice (some (lb, 0)) n n', .map (some s3.nx), off, fuse, steps, wr] e x false el)).get b = some o →
              b < s3.nx + 1 ∧ o.lo (s3.nx + 1) ∧ ((s.new (.map [])).put d (.cells [.slice (some (lb, 0)) n n', .map (some s.nx), off, fuse, steps, wr] e x false el)).get (if b = s3.nx then s.nx else b) = some (o.ren fun b => if b = s3.nx then s.nx else b) := by
            intro b o hb
            rw [AS.get_put] at hb
            by_cases hbd : b = d
            · subst hbd
              rw [if_pos rfl] at hb
              cases hb
              refine ⟨by omega, ⟨Nat.lt_succ_of_lt z1, Nat.lt_succ_self _, AV.lo_mono (Nat.le_succ _) _ z3, AV.lo_mono (Nat.le_succ _) _ z4, AV.lo_mono (Nat.le_succ _) _ z5, AV.lo_mono (Nat.le_succ _) _ z6, trivial⟩, ?_⟩
              rw [hid b hdx, get_put_same]
              simp only [ABlk.ren, AV.rens, AV.ren, if_pos, AV.ren_id hid _ z3, AV.ren_id hid _ z4, AV.ren_id hid _ z5, AV.ren_id hid _ z6, hid lb hlx]
            · rw [if_neg hbd, AS.get_new] at hb
              by_cases hbn : b = s3.nx
              · subst hbn
                rw [if_pos (by rfl)] at hb
                cases hb
                refine ⟨Nat.lt_succ_self _, ⟨trivial, trivial⟩, ?_⟩
                rw [if_pos rfl, get_put_ne _ _ _ _ (Ne.symm hdn), get_new_same]
                rfl
              · rw [if_neg (by exact hbn), AS.get_kill] at hb
                by_cases hbw : b = wm
                · rw [if_pos hbw] at hb; cases hb
                · rw [if_neg hbw, AS.get_put] at hb
                  by_cases hbl : b = lb
                  · subst hbl
                    rw [if_pos rfl] at hb
                    cases hb
                    have hlo : AV.los s3.nx (setAll ls cs) := setAll_los _ _ _ (hwf.lo hlb) (fun x hx => by obtain ⟨t, ht⟩ := lastsOf_str s3 es ls hls x hx; rw [ht]; trivial)
                    refine ⟨by omega, AV.los_mono (Nat.le_succ _) _ hlo, ?_⟩
                    rw [hid b hlx, get_put_ne _ _ _ _ c4, get_new_ne _ _ _ (by omega), ulb, ABlk.ren_id (n := s3.nx) hid (.cells (setAll ls cs) le lx false lel) hlo]
                  · rw [if_neg hbl] at hb
                    have hbx := hwf.lt hb
                    refine ⟨by omega, ABlk.lo_mono (Nat.le_succ _) _ (hwf.lo hb), ?_⟩
                    rw [hid b hbx, get_put_ne _ _ _ _ hbd, get_new_ne _ _ _ (by omega), uk b hbx hbl hbw, hb, ABlk.ren_id (n := s3.nx) hid _ (hwf.lo hb)]
          refine hCP.gc hR (fun b => if b = s3.nx then s.nx else b) (by show s1'.nx ≤ s3.nx + 1; omega) (fun b hb => hid b (by omega)) rfl trivial key (fun b b' hb hb' he => ?_)
          have k1 : b < s3.nx + 1 := by
            cases hg : ((((s3.put lb (.cells (setAll ls cs) le lx false lel)).kill wm).new (.map [])).put d (.cells [.slice (some (lb, 0)) n n', .map (some s3.nx), off, fuse, steps, wr] e x false el)).get b with
            | none => exact absurd hg hb
            | some o => exact (key b o hg).1
          have k2 : b' < s3.nx + 1 := by
            cases hg : ((((s3.put lb (.cells (setAll ls cs) le lx false lel)).kill wm).new (.map [])).put d (.cells [.slice (some (lb, 0)) n n', .map (some s3.nx), off, fuse, steps, wr] e x false el)).get b' with
            | none => exact absurd hg hb'
            | some o => exact (key b' o hg).1
          have he' : (if b = s3.nx then s.nx else b) = (if b' = s3.nx then s.nx else b') := he
          split at he' <;> split at he' <;> omega
        · cases hgo
      · cases hgo
    · cases hgo
  · cases hgo

theorem sync_ok (hst : SumOK Go.Proofs.Tryz.prog 173 sumStep) : SumOK Go.Proofs.Tryz.prog 116 sumSync := by
  intro args s r s' hs
  unfold sumSync at hs
  split at hs
  · rename_i d
    split at hs
    · rename_i s1 h1
      exact sync_go hst h1 hs
    · rename_i s1 h1
      cases hs
      exact sync_false hst h1
    · cases hs
  · cases hs
end Go.Ai

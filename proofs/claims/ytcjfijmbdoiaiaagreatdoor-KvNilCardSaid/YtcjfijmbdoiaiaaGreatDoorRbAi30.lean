/- A range over a map, the loop itself. -/
import Derived.Test.YtcjfijmbdoiaiaaGreatDoorRbAi29
set_option linter.unusedSimpArgs false
set_option linter.unusedVariables false
namespace Go.Ai

section
variable {P : Program} {μ₀ : Mu} {s₀ : AS} {w₀ : World} {n tI e it mb : Nat} {es : List (AV × AV)} {ees : Array MapEntry} {clock : Nat}

theorem nodup_len : ∀ (n : Nat) (l : List Nat), l.Nodup → (∀ i ∈ l, i < n) → l.length ≤ n
  | 0, l, _, h => by
    cases l with
    | nil => simp
    | cons x l => exact absurd (h x (by simp)) (by omega)
  | n + 1, l, hn, h => by
    have := nodup_len n (l.erase n) (hn.erase n) (fun i hi => by
      have h1 := (hn.mem_erase_iff).1 hi
      have := h i h1.2
      omega)
    rw [List.length_erase] at this
    split at this <;> omega

theorem nodup_all {n : Nat} {l : List Nat} (hn : l.Nodup) (h : ∀ i ∈ l, i < n) (hl : l.length = n) : ∀ i, i < n → i ∈ l := fun i hi => by
  by_cases hm : i ∈ l
  · exact hm
  · have := nodup_len n (i :: l) (List.nodup_cons.2 ⟨hm, hn⟩) (fun x hx => by
      rcases List.mem_cons.1 hx with rfl | hx
      · exact hi
      · exact h x hx)
    simp at this
    omega

theorem wp_op_at {ops : Array Oper} {Q : Exit → Act → World → Prop} {i : Nat} {rest : List Nat} {o : Oper} {a : Act} {w w' : World} {v : Value} (ho : ops[i]? = some o) (hg : o.guard = none)
    (hr : (execOp a.eval o).run P w = .ok (.value v) w') (h : wpOps P ops Q rest (a.put o.dst v) w') : wpOps P ops Q (i :: rest) a w := by
  rw [wpOps_cons]
  unfold wpOp
  simp only [ho]
  rw [if_pos (by simp [Region.wanted, hg])]
  left
  unfold Oper.wp
  rw [hr]
  exact h

/-- One round. -/
theorem RI.round {call : ACall} (hcall : CallOK P call) (hmix : P.follows .mixedOrders = true) {N : Nat} (hg : GOK P μ₀) (hit : w₀.heap.size ≤ it)
    {b1 b2 i6 i7 tN tB tE : Nat} {R6 R7 : Array Oper} {o1 o2 o3 : Oper} {l7 : List AOper} {body : Code}
    (h61 : R6 = #[o1, o2]) (h1d : o1.dst = some tN) (h1o : o1.op = .next (.tmp tI) false) (h1g : o1.guard = none)
    (h2 : [o2].mapM (coper P n R6) = some [⟨some tB, .extr (.tmp tN) 0, none⟩])
    (h7s : R7[0]? = some o3) (h3d : o3.dst = some tE) (h3o : o3.op = .entry (.tmp tI)) (h3g : o3.guard = none) (h7 : (R7.toList.drop 1).mapM (coper P n R7) = some l7)
    (hN : tN < n ∧ tN ≠ tI) (hB : tB < n ∧ tB ≠ tI) (hE : tE < n ∧ tE ≠ tI) (hBN : tB ≠ tN)
    (I : List Nat → Tm → AS → Prop)
    (hstep : ∀ idx j k v tm s, idx.Nodup → j ∉ idx → es[j]? = some (k, v) → tm.at tI = .ptr (some (e, 0)) → I idx tm s →
      ∃ tm1 s1 tm2 s2, aops call l7 (((tm.put (some tN) (.tuple [.bool true, k, v])).put (some tB) (.bool true)).put (some tE) (.tuple [k, v])) s = some (tm1, s1) ∧
        aexec call N (comp P n body) tm1 s1 = some (.normal, tm2, s2) ∧ tm1.at tI = .ptr (some (e, 0)) ∧ tm2.at tI = .ptr (some (e, 0)) ∧ I (idx ++ [j]) tm2 s2)
    (Q : Exit → Act → World → Prop) (K : Act → World → Prop)
    (hend : ∀ idx tm s a w, I idx tm s → idx.Nodup → (∀ i ∈ idx, i < es.length) → (∀ i, i < es.length → i ∈ idx) → Inv P μ₀ s₀ w₀ n ((tm.put (some tN) (.tuple [.bool false])).put (some tB) (.bool false)) s a w → Q .normal a w)
    (idx : List Nat) (seen : Array Nat) (μ : Mu) (tm : Tm) (s : AS) (a : Act) (w : World) (hR : RI P μ₀ s₀ w₀ n tI e it mb es ees clock idx seen μ tm s a w) (hI : I idx tm s)
    (hK : ∀ j seen' μ' tm' s' a' w', j < es.length → j ∉ idx → RI P μ₀ s₀ w₀ n tI e it mb es ees clock (idx ++ [j]) seen' μ' tm' s' a' w' → I (idx ++ [j]) tm' s' → K a' w') :
    (Code.seq (.region i6 R6 false) (.seq (.cond (.tmp tB) .skip (.exit b1)) (.block b2 (.seq (.region i7 R7 false) body)))).wp P (Exit.then K (Exit.inBlock b1 Q)) a w := by
  have ho1 : R6[0]? = some o1 := by rw [h61]; rfl
  have ho2 : R6[1]? = some o2 := by rw [h61]; rfl
  have hsz6 : R6.size = 2 := by rw [h61]; rfl
  -- the extract of the step's word
  have ext : ∀ (b : Bool) (vs : List AV) (μ' : Mu) (tm' : Tm) (s' : AS) (a' : Act) (w' : World) (idx' : List Nat) (seen' : Array Nat) (Q' : Exit → Act → World → Prop), tm'.at tN = .tuple (.bool b :: vs) →
      RI P μ₀ s₀ w₀ n tI e it mb es ees clock idx' seen' μ' tm' s' a' w' → (∀ μ'' a'' w'', RI P μ₀ s₀ w₀ n tI e it mb es ees clock idx' seen' μ'' (tm'.put (some tB) (.bool b)) s' a'' w'' → Q' .normal a'' w'') → wpOps P R6 Q' [1] a' w' := by
    intro b vs μ' tm' s' a' w' idx' seen' Q' ht hR' hQ'
    have := aops_ok' hcall (hg.mono hR'.stp.ext) (ops := R6) (Q := Q') [] [⟨some tB, .extr (.tmp tN) 0, none⟩] 1 [o2] (fun i hi => by
      have : i = 0 := by simpa using hi
      subst this; simpa using ho2.symm) h2 tm' s' a' w' (tm'.put (some tB) (.bool b)) s' hR'.inv (by
        simp only [aops, AOper.wanted, if_true, aoper, acallee, aalloc, aop, AX.ev, ht]; rfl)
      (fun a'' w'' hI' => by
        obtain ⟨μ'', h⟩ := hR'.after hI' (by rw [at_put, if_neg hB.2]; exact hR'.its)
        exact hQ' μ'' a'' w'' h)
    simpa using this
  refine wp_seq (wp_region ?_)
  rw [hsz6, show List.range 2 = [0, 1] from rfl]
  rcases run_next_at (P := P) w o1.type it mb clock clock seen ees clock hR.ith hR.mbh hR.stm.2 (Nat.le_refl _) with ⟨hz, hrun⟩ | ⟨y, hy, w1, hw1, hrun⟩
  · -- nothing is left
    refine wp_op_at ho1 h1g (v := .tuple #[.bool false]) (w' := w) ?_ ?_
    · simp only [execOp, h1o, hR.eval, Sem.run_bind, hrun, Result.andThen_ok]; rfl
    · have hR1 := hR.put tN hN.1 hN.2 (v := .tuple [.bool false]) (v' := .tuple #[.bool false]) (.tuple _ _ (.cons _ _ _ _ (.bool _) .nil))
      rw [h1d]
      refine ext false [] _ _ _ _ _ _ _ _ (by rw [at_put, if_pos rfl]) hR1 fun μ2 a2 w2 hR2 => ?_
      show (Code.seq _ _).wp P _ a2 w2
      refine wp_seq ?_
      have hb : a2.eval (.tmp tB) = .bool false := by
        have := hR2.tr tB
        rw [at_put, if_pos rfl] at this
        exact this.bool_inv
      refine wp_cond_false hb (wp_exit ?_)
      show (if b1 = b1 then Q .normal a2 w2 else _)
      rw [if_pos rfl]
      refine hend idx tm s a2 w2 hI hR.idn hR.idl (fun i hi => ?_) ⟨hR2.size, hR2.defers, μ2, hR2.tr, hR2.stp⟩
      by_cases hm : i ∈ idx
      · exact hm
      · have hl := hi
        rw [hR.ent.len] at hl
        have := (hR.left (ees.toList[i])).2 ⟨i, List.getElem?_eq_getElem hl, hm⟩
        have h0 : (leftOf ees seen).toList = [] := List.eq_nil_of_length_eq_zero (by simpa using hz)
        rw [h0] at this
        cases this
  · obtain ⟨j, hyj, hj⟩ := (hR.left y).1 hy
    obtain ⟨k, v, hes, hk, hv⟩ := hR.ent.at j y hyj
    refine wp_op_at ho1 h1g (v := .tuple #[.bool true, y.key, y.val]) (w' := ChangeMaps.setBlock w1 it (.mapIter (some mb) clock (seen.push y.born) clock)) ?_ ?_
    · simp only [execOp, h1o, hR.eval, Sem.run_bind, hrun, Result.andThen_ok]; rfl
    · have hR1 := (hR.step hit hyj hj hw1).put tN hN.1 hN.2 (v := .tuple [.bool true, k, v]) (v' := .tuple #[.bool true, y.key, y.val]) (.tuple _ _ (.cons _ _ _ _ (.bool _) (.cons _ _ _ _ hk (.cons _ _ _ _ hv .nil))))
      rw [h1d]
      refine ext true [k, v] _ _ _ _ _ _ _ _ (by rw [at_put, if_pos rfl]) hR1 fun μ2 a2 w2 hR2 => ?_
      show (Code.seq _ _).wp P _ a2 w2
      refine wp_seq ?_
      have hb : a2.eval (.tmp tB) = .bool true := by
        have := hR2.tr tB
        rw [at_put, if_pos rfl] at this
        exact this.bool_inv
      refine wp_cond_true hb (wp_skip ?_)
      show (Code.block _ _).wp P _ a2 w2
      refine wp_block (wp_seq (wp_region ?_))
      obtain ⟨tm1, s1, tm2, s2, q1, q2, q3, q4, q5⟩ := hstep idx j k v tm s hR.idn hj hes hR.its hI
      have hlt0 : 0 < R7.size := (Array.getElem?_eq_some_iff.1 h7s).1
      have hrange : List.range R7.size = 0 :: (List.range' 1 (R7.toList.drop 1).length ++ []) := by
        rw [List.append_nil, List.length_drop, Array.length_toList, List.range_eq_range']
        obtain ⟨z, hz⟩ : ∃ z, R7.size = z + 1 := ⟨R7.size - 1, by omega⟩
        rw [hz]
        rfl
      rw [hrange]
      have hen := run_entry_at (P := P) w2 it mb clock seen ees clock y hR2.ith hR2.mbh (List.mem_of_getElem? hyj) hR2.stm.1
      refine wp_op_at h7s h3g (v := .tuple #[y.key, y.val]) (w' := w2) ?_ ?_
      · simp only [execOp, h3o, hR2.eval, Sem.run_bind, hen, Result.andThen_ok]; rfl
      · obtain ⟨k', v', hes', hk', hv'⟩ := hR2.ent.at j y hyj
        rw [hes] at hes'
        cases hes'
        have hR3 := hR2.put tE hE.1 hE.2 (v := .tuple [k, v]) (v' := .tuple #[y.key, y.val]) (.tuple _ _ (.cons _ _ _ _ hk' (.cons _ _ _ _ hv' .nil)))
        rw [h3d]
        refine aops_ok' hcall (hg.mono hR3.stp.ext) [] l7 1 (R7.toList.drop 1) (fun i _ => by rw [List.getElem?_drop, Array.getElem?_toList]) h7 _ _ _ _ tm1 s1 hR3.inv q1 fun a4 w4 hI4 => ?_
        obtain ⟨μ4, hR4⟩ := hR3.after hI4 q3
        show body.wp P _ a4 w4
        refine comp_ok hcall hmix (hg.mono hR4.stp.ext) body tm1 s1 a4 w4 .normal tm2 s2 _ hR4.inv q2 fun a5 w5 hI5 => ?_
        obtain ⟨μ5, hR5⟩ := hR4.after hI5 q4
        exact hK j _ μ5 tm2 s2 a5 w5 (by rw [hR.ent.len]; exact (List.getElem?_eq_some_iff.1 hyj).1) hj hR5 q5

theorem RI.loop {call : ACall} (hcall : CallOK P call) (hmix : P.follows .mixedOrders = true) {N : Nat} (hg : GOK P μ₀) (hit : w₀.heap.size ≤ it)
    {b1 b2 i6 i7 tN tB tE : Nat} {R6 R7 : Array Oper} {o1 o2 o3 : Oper} {l7 : List AOper} {body : Code}
    (h61 : R6 = #[o1, o2]) (h1d : o1.dst = some tN) (h1o : o1.op = .next (.tmp tI) false) (h1g : o1.guard = none)
    (h2 : [o2].mapM (coper P n R6) = some [⟨some tB, .extr (.tmp tN) 0, none⟩])
    (h7s : R7[0]? = some o3) (h3d : o3.dst = some tE) (h3o : o3.op = .entry (.tmp tI)) (h3g : o3.guard = none) (h7 : (R7.toList.drop 1).mapM (coper P n R7) = some l7)
    (hN : tN < n ∧ tN ≠ tI) (hB : tB < n ∧ tB ≠ tI) (hE : tE < n ∧ tE ≠ tI) (hBN : tB ≠ tN)
    (I : List Nat → Tm → AS → Prop)
    (hstep : ∀ idx j k v tm s, idx.Nodup → j ∉ idx → es[j]? = some (k, v) → tm.at tI = .ptr (some (e, 0)) → I idx tm s →
      ∃ tm1 s1 tm2 s2, aops call l7 (((tm.put (some tN) (.tuple [.bool true, k, v])).put (some tB) (.bool true)).put (some tE) (.tuple [k, v])) s = some (tm1, s1) ∧
        aexec call N (comp P n body) tm1 s1 = some (.normal, tm2, s2) ∧ tm1.at tI = .ptr (some (e, 0)) ∧ tm2.at tI = .ptr (some (e, 0)) ∧ I (idx ++ [j]) tm2 s2)
    (Q : Exit → Act → World → Prop)
    (hend : ∀ idx tm s a w, I idx tm s → idx.Nodup → (∀ i ∈ idx, i < es.length) → (∀ i, i < es.length → i ∈ idx) → Inv P μ₀ s₀ w₀ n ((tm.put (some tN) (.tuple [.bool false])).put (some tB) (.bool false)) s a w → Q .normal a w) :
    ∀ idx seen μ tm s a w, RI P μ₀ s₀ w₀ n tI e it mb es ees clock idx seen μ tm s a w → I idx tm s →
      (Code.block b1 (.loop (.seq (.region i6 R6 false) (.seq (.cond (.tmp tB) .skip (.exit b1)) (.block b2 (.seq (.region i7 R7 false) body)))))).wp P Q a w := by
  intro idx seen μ tm s a w hRI hI
  refine wp_block (wp_loop_rounds (es.length - idx.length + 1) ?_)
  have key : ∀ (m : Nat) (idx : List Nat) (seen : Array Nat) (μ : Mu) (tm : Tm) (s : AS) (a : Act) (w : World), es.length - idx.length ≤ m → RI P μ₀ s₀ w₀ n tI e it mb es ees clock idx seen μ tm s a w → I idx tm s →
      Code.rounds P (.seq (.region i6 R6 false) (.seq (.cond (.tmp tB) .skip (.exit b1)) (.block b2 (.seq (.region i7 R7 false) body)))) (Exit.inBlock b1 Q) (m + 1) a w := by
    intro m
    induction m with
    | zero =>
      intro idx seen μ tm s a w hm hRI hI
      have hall := nodup_all hRI.idn hRI.idl (by have := nodup_len _ _ hRI.idn hRI.idl; omega)
      refine RI.round hcall hmix hg hit h61 h1d h1o h1g h2 h7s h3d h3o h3g h7 hN hB hE hBN I hstep Q _ hend idx seen μ tm s a w hRI hI fun j _ _ _ _ _ _ hj hn _ _ => absurd (hall j hj) hn
    | succ m ih =>
      intro idx seen μ tm s a w hm hRI hI
      refine RI.round hcall hmix hg hit h61 h1d h1o h1g h2 h7s h3d h3o h3g h7 hN hB hE hBN I hstep Q _ hend idx seen μ tm s a w hRI hI fun j seen' μ' tm' s' a' w' hj hn hR' hI' => ?_
      exact ih (idx ++ [j]) seen' μ' tm' s' a' w' (by
        have := nodup_len _ _ hRI.idn hRI.idl
        simp only [List.length_append, List.length_singleton]
        omega) hR' hI'
  exact key _ idx seen μ tm s a w (Nat.le_refl _) hRI hI

end
end Go.Ai

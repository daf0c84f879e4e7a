/- The abstract interpreter's operations are the model's: maps, clear, equality of plain structs; all of them in one law. -/
import Derived.Test.YtcjfijmbdoiaiaaGreatDoorRbAi12
set_option linter.unusedSimpArgs false
set_option linter.unusedVariables false
namespace Go.Ai

section
variable {P : Program} {μ : Mu} {s : AS} {w : World} {tm : Tm} {a : Act} {o : Oper}

theorem keyDesc_some {d : TypeDesc} {kk : KK} (h : keyDesc d = some kk) : (kk = .int ∧ ∃ k, d = .int k) ∨ (kk = .str ∧ d = .string) ∨ (kk = .bool ∧ d = .bool) := by
  unfold keyDesc at h
  split at h
  · cases h; exact .inl ⟨rfl, _, rfl⟩
  · cases h; exact .inr (.inl ⟨rfl, rfl⟩)
  · cases h; exact .inr (.inr ⟨rfl, rfl⟩)
  · cases h

theorem bytes_beq {x y : ByteArray} {l m : List UInt8} (hx : x.data.toList = l) (hy : y.data.toList = m) : (x == y) = (l == m) := by
  have h0 : (x == y) = (x.data == y.data) := by cases x; cases y; rfl
  rw [h0, Bool.eq_iff_iff, beq_iff_eq, beq_iff_eq]
  constructor
  · intro h; rw [← hx, ← hy, h]
  · intro h; exact Array.ext' (by rw [hx, hy, h])

theorem keyEq_ok {d : TypeDesc} {kk : KK} (hd : keyDesc d = some kk) {x y : AV} {b : Bool} (h : keyEq kk x y = some b) {xv yv : Value} (hx : VR μ x xv) (hy : VR μ y yv) :
    Instr.sameNow d xv yv = some b ∧ (b = true → Instr.sameBits 10000 yv xv = true) := by
  rcases keyDesc_some hd with ⟨rfl, k, rfl⟩ | ⟨rfl, rfl⟩ | ⟨rfl, rfl⟩
  · cases x <;> cases y <;> first | (exfalso; simp [keyEq] at h; done) | skip
    rename_i k1 n k2 m
    simp only [keyEq] at h
    rw [hx.int_inv, hy.int_inv]
    split at h
    · rename_i he
      subst he
      simp only [Option.some.injEq] at h; subst h
      refine ⟨by simp [Instr.sameNow], fun hb => ?_⟩
      simp only [beq_iff_eq] at hb
      simp [Instr.sameBits, hb]
    · cases h
  · cases x <;> cases y <;> first | (exfalso; simp [keyEq] at h; done) | skip
    rename_i l m
    simp only [keyEq, Option.some.injEq] at h; subst h
    obtain ⟨p, rfl, hp⟩ := hx.str_inv
    obtain ⟨q, rfl, hq⟩ := hy.str_inv
    refine ⟨by simp only [Instr.sameNow, bytes_beq hp hq], fun hb => ?_⟩
    simp only [Instr.sameBits, bytes_beq hq hp]
    simp only [beq_iff_eq] at hb ⊢
    exact hb.symm
  · cases x <;> cases y <;> first | (exfalso; simp [keyEq] at h; done) | skip
    simp only [keyEq, Option.some.injEq] at h; subst h
    rw [hx.bool_inv, hy.bool_inv]
    refine ⟨by simp [Instr.sameNow], fun hb => ?_⟩
    simp only [beq_iff_eq] at hb
    simp [Instr.sameBits, hb]

theorem findX_ok {d : TypeDesc} {kk : KK} (hd : keyDesc d = some kk) {k : AV} {kv : Value} (hk : VR μ k kv) : ∀ {es : List (AV × AV)} {ees : List MapEntry} (_ : MRs μ es ees) (i : Nat) {r : Option (Nat × AV)}, findX kk k es i = some r →
    ∃ r' : Option (Nat × Value), Instr.findNow d kv ees i = some r' ∧ ((r = none ∧ r' = none) ∨ ∃ j v v' e, r = some (j, v) ∧ r' = some (j, v') ∧ VR μ v v' ∧ i ≤ j ∧ ees[j - i]? = some e ∧ Instr.sameBits 10000 e.key kv = true) := by
  intro es ees hm
  induction hm with
  | nil =>
    intro i r h
    simp [findX] at h; subst h
    exact ⟨none, rfl, .inl ⟨rfl, rfl⟩⟩
  | cons k' v e l l' hk' hv hl ih =>
    intro i r h
    simp only [findX] at h
    split at h
    · rename_i he
      simp only [Option.some.injEq] at h; subst h
      obtain ⟨e1, e2⟩ := keyEq_ok hd he hk hk'
      exact ⟨some (i, e.val), by simp [Instr.findNow, e1], .inr ⟨i, v, e.val, e, rfl, rfl, hv, Nat.le_refl _, by simp, e2 rfl⟩⟩
    · rename_i he
      obtain ⟨e1, _⟩ := keyEq_ok hd he hk hk'
      obtain ⟨r', e2, e3⟩ := ih (i + 1) h
      refine ⟨r', by simp [Instr.findNow, e1, e2], ?_⟩
      rcases e3 with e3 | ⟨j, v1, v', e', k1, k2, k3, k4, k5, k6⟩
      · exact .inl e3
      · refine .inr ⟨j, v1, v', e', k1, k2, k3, by omega, ?_, k6⟩
        rw [show j - i = (j - (i + 1)) + 1 by omega]
        simpa using k5
    · cases h

theorem checkKey_ok {t : TypeId} {d : TypeDesc} {kk : KK} (hu : P.underlying t = some d) (hd : keyDesc d = some kk) (b : Bool) (v : Value) (w : World) : (Instr.checkKey b 10000 t v).run P w = .ok () w := by
  show (Instr.checkKey b (9999 + 1) t v).run P w = _
  unfold Instr.checkKey
  simp only [Sem.run_bind, run_underlying hu, Result.andThen_ok]
  rcases keyDesc_some hd with ⟨_, k, rfl⟩ | ⟨_, rfl⟩ | ⟨_, rfl⟩ <;> rfl

theorem findKey_ok {t : TypeId} {d : TypeDesc} (hu : P.underlying t = some d) {k : Value} {es : List MapEntry} {r : Option (Nat × Value)} (h : Instr.findNow d k es 0 = some r) (w : World) : (Instr.findKey t k es).run P w = .ok r w := by
  simp [Instr.findKey, run_underlying hu, h]

theorem ok_look (hg : GOK P μ) (hT : TR μ tm a.tmps) (hR : Rel μ s w) {t kt e : TypeId} {m k : Operand} {ok : Bool} (ho : o.op = .lookup t m k ok) (hu : P.underlying t = some (.map kt e)) {d : TypeDesc} {kk : KK} (hkt : P.underlying kt = some d) (hd : keyDesc d = some kk)
    {z : AV} (hz : tzeroV P e = some z) {am ak : AX} (hm : cx P m = some am) (hk : cx P k = some ak) {v : AV} {s' : AS} (h : aop tm s (.look kk z ok am ak) = some (v, s')) : Good μ s w ((execOp a.eval o).run P w) v s' := by
  have hmv := cx_ok hg hT hm
  have hkv := cx_ok hg hT hk
  obtain ⟨i, zv, hi, hzv, hzr⟩ := tzeroV_some hz
  have fin : ∀ (u : AV) (u' : Value) (b : Bool), VR μ u u' → VR μ (if ok then .tuple [u, .bool b] else u) (if ok then .tuple #[u', .bool b] else u') := by
    intro u u' b hu'
    cases ok
    · exact hu'
    · exact .tuple _ _ (.cons _ _ _ _ hu' (.cons _ _ _ _ (.bool b) .nil))
  simp only [aop] at h
  split at h
  · rename_i ev
    rw [ev] at hmv
    simp only [Option.some.injEq, Prod.mk.injEq] at h
    obtain ⟨rfl, rfl⟩ := h
    have : (execOp a.eval o).run P w = .ok (.value (if ok then .tuple #[zv, .bool false] else zv)) w := by
      simp only [execOp, ho, Instr.lookup, Sem.run_bind, run_underlying hu, Result.andThen_ok, hmv.nilmap_inv, Sem.run_pure, checkKey_ok hkt hd]
      rw [findKey_ok (r := none) hkt rfl]
      simp only [Result.andThen_ok, Sem.run_bind, run_zeroValue hi hzv, Sem.run_pure]
    rw [this]
    exact .value hR (fin _ _ _ (hzr μ))
  · rename_i r ev
    rw [ev] at hmv
    obtain ⟨bi, hv, hbi⟩ := hmv.map_inv
    split at h
    · rename_i es hge
      obtain ⟨_, ees, clock, hh, hms, _⟩ := hR.map hge hbi
      have step : ∀ r' : Option (Nat × Value), Instr.findNow d (a.eval k) ees.toList 0 = some r' → (execOp a.eval o).run P w = .ok (.value (match r' with | some (_, v') => if ok then .tuple #[v', .bool true] else v' | none => if ok then .tuple #[zv, .bool false] else zv)) w := by
        intro r' hf
        simp only [execOp, ho, Instr.lookup, Sem.run_bind, run_underlying hu, Result.andThen_ok, hv, run_getObj_map hh, Sem.run_pure, checkKey_ok hkt hd, findKey_ok hkt hf]
        cases r' with
        | none => simp only [Sem.run_bind, run_zeroValue hi hzv, Result.andThen_ok, Sem.run_pure]
        | some x => simp only [Sem.run_bind, Result.andThen_ok, Sem.run_pure]
      split at h
      · rename_i j u hf
        simp only [Option.some.injEq, Prod.mk.injEq] at h
        obtain ⟨rfl, rfl⟩ := h
        obtain ⟨r', e1, e2⟩ := findX_ok hd hkv hms 0 hf
        rcases e2 with ⟨e2, _⟩ | ⟨j', u1, u', e', k1, rfl, k3, _⟩
        · cases e2
        · cases k1
          rw [step _ e1]
          exact .value hR (fin _ _ _ k3)
      · rename_i hf
        simp only [Option.some.injEq, Prod.mk.injEq] at h
        obtain ⟨rfl, rfl⟩ := h
        obtain ⟨r', e1, e2⟩ := findX_ok hd hkv hms 0 hf
        rcases e2 with ⟨_, rfl⟩ | ⟨j', u1, u', e', k1, _⟩
        · rw [step _ e1]
          exact .value hR (fin _ _ _ (hzr μ))
        · cases k1
      · cases h
    · cases h
  · cases h

theorem run_setObj_map {r : Nat} {ees : Array MapEntry} {clock : Nat} (h : w.heap[r]? = some (.map ees clock)) (ob : Obj) : (setObj r ob).run P w = .ok () { w with heap := w.heap.setIfInBounds r ob } := by
  simp only [setObj, Sem.run, h]

theorem Stp.putMap (hR : Rel μ s w) {r : Nat} {es : List (AV × AV)} (hge : s.get r = some (.map es)) {bi : BI} (hbi : μ r = some bi) {ees : Array MapEntry} {clock : Nat} (hh : w.heap[bi.blk]? = some (.map ees clock)) (hro : bi.ro = false)
    {es' : List (AV × AV)} {ees' : Array MapEntry} {clock' : Nat} (hm : MRs μ es' ees'.toList) (hsp : Stamps ees'.toList clock') : Stp μ s w μ (s.put r (.map es')) { w with heap := w.heap.setIfInBounds bi.blk (.map ees' clock') } := by
  have hlt : bi.blk < w.heap.size := (Array.getElem?_eq_some_iff.1 hh).1
  refine Stp.put hR (.map es') hge hbi hro (by simp) (fun c hc => ?_) rfl rfl rfl ⟨hro, ees', clock', ?_, hm, hsp⟩
  · show (w.heap.setIfInBounds bi.blk _)[c]? = _
    rw [Array.getElem?_setIfInBounds_ne (fun h => hc h.symm)]
  · show (w.heap.setIfInBounds bi.blk _)[bi.blk]? = _
    rw [Array.getElem?_setIfInBounds_self_of_lt hlt]

theorem Stamps.modify {l : List MapEntry} {c : Nat} (h : Stamps l c) (j : Nat) (f : MapEntry → MapEntry) (hf : ∀ e, (f e).born = e.born) : Stamps (l.modify j f) c := by
  have e : (l.modify j f).map (·.born) = l.map (·.born) := by
    apply List.ext_getElem?
    intro i
    simp only [List.getElem?_map, List.getElem?_modify]
    cases l[i]? with
    | none => simp
    | some e => by_cases hi : j = i <;> simp [hi, hf]
  refine ⟨by rw [e]; exact h.1, fun x hx => ?_⟩
  have : x.born ∈ (l.modify j f).map (·.born) := List.mem_map_of_mem hx
  rw [e] at this
  obtain ⟨y, hy, hxy⟩ := List.mem_map.1 this
  rw [← hxy]
  exact h.2 y hy

theorem Stamps.push {l : List MapEntry} {c : Nat} (h : Stamps l c) (k v : Value) : Stamps (l ++ [{ key := k, val := v, born := c }]) (c + 1) := by
  refine ⟨?_, fun x hx => ?_⟩
  · rw [List.map_append, List.nodup_append]
    refine ⟨h.1, by simp, fun a ha b hb => ?_⟩
    simp only [List.map_cons, List.map_nil, List.mem_singleton] at hb
    obtain ⟨y, hy, rfl⟩ := List.mem_map.1 ha
    have := h.2 y hy
    omega
  · rw [List.mem_append, List.mem_singleton] at hx
    rcases hx with hx | rfl
    · have := h.2 x hx; omega
    · exact Nat.lt_succ_self _

theorem Stamps.erase {l : List MapEntry} {c : Nat} (h : Stamps l c) (j : Nat) : Stamps (l.eraseIdx j) c :=
  ⟨((List.eraseIdx_sublist l j).map (·.born)).nodup h.1, fun x hx => h.2 x ((List.eraseIdx_sublist l j).subset hx)⟩

theorem MRs.append {l m : List (AV × AV)} {l' m' : List MapEntry} (h : MRs μ l l') (hm : MRs μ m m') : MRs μ (l ++ m) (l' ++ m') := by
  induction h with
  | nil => exact hm
  | cons k v e l l' hk hv _ ih => exact .cons k v e _ _ hk hv ih

theorem MRs.modify {l : List (AV × AV)} {l' : List MapEntry} (h : MRs μ l l') {k v : AV} {f : MapEntry → MapEntry} (hf : ∀ e, VR μ k (f e).key ∧ VR μ v (f e).val) : ∀ j, MRs μ (l.set j (k, v)) (l'.modify j f) := by
  induction h with
  | nil => intro j; simp; exact .nil
  | cons k' v' e l l' hk hv hl ih =>
    intro j
    cases j with
    | zero => simp only [List.set_cons_zero, List.modify_zero_cons]; exact .cons _ _ _ _ _ (hf e).1 (hf e).2 hl
    | succ j => simp only [List.set_cons_succ, List.modify_succ_cons]; exact .cons _ _ _ _ _ hk hv (ih j)

theorem MRs.erase {l : List (AV × AV)} {l' : List MapEntry} (h : MRs μ l l') : ∀ j, MRs μ (l.eraseIdx j) (l'.eraseIdx j) := by
  induction h with
  | nil => intro j; simp; exact .nil
  | cons k' v' e l l' hk hv hl ih =>
    intro j
    cases j with
    | zero => simpa using hl
    | succ j => simp only [List.eraseIdx_cons_succ]; exact .cons _ _ _ _ _ hk hv (ih j)

theorem ok_mupd (hg : GOK P μ) (hT : TR μ tm a.tmps) (hR : Rel μ s w) {t kt e : TypeId} {m k x : Operand} (ho : o.op = .mapUpdate t m k x ∨ o.op = .insert t m k x) (hu : P.underlying t = some (.map kt e)) {d : TypeDesc} {kk : KK} (hkt : P.underlying kt = some d) (hd : keyDesc d = some kk)
    {am ak ax : AX} (hm : cx P m = some am) (hk : cx P k = some ak) (hx : cx P x = some ax) {v : AV} {s' : AS} (h : aop tm s (.mupd kk am ak ax) = some (v, s')) : Good μ s w ((execOp a.eval o).run P w) v s' := by
  have hmv := cx_ok hg hT hm
  have hkv := cx_ok hg hT hk
  have hxv := cx_ok hg hT hx
  have hex : (execOp a.eval o).run P w = ((Instr.mapUpdate t (a.eval m) (a.eval k) (a.eval x)).run P w).andThen fun _ w' => .ok .skip w' := by
    rcases ho with ho | ho <;> simp [execOp, ho]
  simp only [aop] at h
  split at h
  · rename_i r ev
    rw [ev] at hmv
    obtain ⟨bi, hv, hbi⟩ := hmv.map_inv
    split at h
    · rename_i es hge
      obtain ⟨hro, ees, clock, hh, hms, hst0⟩ := hR.map hge hbi
      split at h
      · rename_i j u hf
        simp only [Option.some.injEq, Prod.mk.injEq] at h
        obtain ⟨rfl, rfl⟩ := h
        obtain ⟨r', e1, e2⟩ := findX_ok hd hkv hms 0 hf
        rcases e2 with ⟨e2, _⟩ | ⟨j', u1, u', e', k1, rfl, k3, k4, k5, k6⟩
        · cases e2
        · cases k1
          simp only [Nat.sub_zero, Array.getElem?_toList] at k5
          have hst := Stp.putMap hR hge hbi hh hro (es' := es.set j (ak.ev tm, ax.ev tm)) (ees' := ees.modify j fun e => { e with key := a.eval k, val := a.eval x }) (clock' := clock)
            (by rw [Array.toList_modify]; exact hms.modify (fun _ => ⟨hkv, hxv⟩) j) (by rw [Array.toList_modify]; exact hst0.modify j _ (fun _ => rfl))
          refine ⟨μ, Go.undef, _, .inr ⟨?_, rfl⟩, VR.undef, hst⟩
          rw [hex, hv]
          simp only [Instr.mapUpdate, Sem.run_bind, run_underlying hu, Result.andThen_ok, run_getObj_map hh, checkKey_ok hkt hd, findKey_ok hkt e1, k5, Option.map_some, Option.getD_some, Instr.keyThatStays, k6, if_true, Sem.run_pure, run_setObj_map hh]
      · rename_i hf
        simp only [Option.some.injEq, Prod.mk.injEq] at h
        obtain ⟨rfl, rfl⟩ := h
        obtain ⟨r', e1, e2⟩ := findX_ok hd hkv hms 0 hf
        rcases e2 with ⟨_, rfl⟩ | ⟨j', u1, u', e', k1, _⟩
        · have hst := Stp.putMap hR hge hbi hh hro (es' := es ++ [(ak.ev tm, ax.ev tm)]) (ees' := ees.push { key := a.eval k, val := a.eval x, born := clock }) (clock' := clock + 1)
            (by rw [Array.toList_push]; exact hms.append (.cons _ _ _ _ _ hkv hxv .nil)) (by rw [Array.toList_push]; exact hst0.push _ _)
          refine ⟨μ, Go.undef, _, .inr ⟨?_, rfl⟩, VR.undef, hst⟩
          rw [hex, hv]
          simp only [Instr.mapUpdate, Sem.run_bind, run_underlying hu, Result.andThen_ok, run_getObj_map hh, checkKey_ok hkt hd, findKey_ok hkt e1, run_setObj_map hh]
        · cases k1
      · cases h
    · cases h
  · cases h

theorem ok_del (hg : GOK P μ) (hT : TR μ tm a.tmps) (hR : Rel μ s w) {c : Call} {m k : Operand} (ho : o.op = .call c) (hc : c.callee = .builtin .delete) (ha : c.args = #[m, k]) {t kt e : TypeId} (hty : c.argTypes[0]? = some t) (hu : P.underlying t = some (.map kt e))
    {d : TypeDesc} {kk : KK} (hkt : P.underlying kt = some d) (hd : keyDesc d = some kk) {am ak : AX} (hm : cx P m = some am) (hk : cx P k = some ak) {v : AV} {s' : AS} (h : aop tm s (.del kk am ak) = some (v, s')) : Good μ s w ((execOp a.eval o).run P w) v s' := by
  have hmv := cx_ok hg hT hm
  have hkv := cx_ok hg hT hk
  have hex : (execOp a.eval o).run P w = ((Builtin.delete_ c.argTypes o.type #[a.eval m, a.eval k]).run P w).andThen fun v w' => .ok (.value v) w' := by
    simp [execOp, ho, resolve, hc, invoke, builtin, ha]
  simp only [aop] at h
  split at h
  · rename_i ev
    rw [ev] at hmv
    simp only [Option.some.injEq, Prod.mk.injEq] at h
    obtain ⟨rfl, rfl⟩ := h
    refine ⟨μ, .tuple #[], w, .inl ?_, .tuple _ _ .nil, Stp.refl hR⟩
    rw [hex]
    simp [Builtin.delete_, hty, hmv.nilmap_inv, run_underlying hu, checkKey_ok hkt hd]
  · rename_i r ev
    rw [ev] at hmv
    obtain ⟨bi, hv, hbi⟩ := hmv.map_inv
    split at h
    · rename_i es hge
      obtain ⟨hro, ees, clock, hh, hms, hst0⟩ := hR.map hge hbi
      split at h
      · rename_i j u hf
        simp only [Option.some.injEq, Prod.mk.injEq] at h
        obtain ⟨rfl, rfl⟩ := h
        obtain ⟨r', e1, e2⟩ := findX_ok hd hkv hms 0 hf
        rcases e2 with ⟨e2, _⟩ | ⟨j', u1, u', e', k1, rfl, k3, k4, k5, k6⟩
        · cases e2
        · cases k1
          have hst := Stp.putMap hR hge hbi hh hro (es' := es.eraseIdx j) (ees' := ees.eraseIdxIfInBounds j) (clock' := clock) (by rw [Array.toList_eraseIdxIfInBounds]; exact hms.erase j) (by rw [Array.toList_eraseIdxIfInBounds]; exact hst0.erase j)
          refine ⟨μ, .tuple #[], _, .inl ?_, .tuple _ _ .nil, hst⟩
          rw [hex, hv]
          simp [Builtin.delete_, hty, run_underlying hu, run_getObj_map hh, checkKey_ok hkt hd, findKey_ok hkt e1, run_setObj_map hh]
      · rename_i hf
        simp only [Option.some.injEq, Prod.mk.injEq] at h
        obtain ⟨rfl, rfl⟩ := h
        obtain ⟨r', e1, e2⟩ := findX_ok hd hkv hms 0 hf
        rcases e2 with ⟨_, rfl⟩ | ⟨j', u1, u', e', k1, _⟩
        · have hlt : bi.blk < w.heap.size := (Array.getElem?_eq_some_iff.1 hh).1
          have hsame : w.heap.setIfInBounds bi.blk (.map ees clock) = w.heap := by
            apply Array.ext_getElem?
            intro q
            by_cases hq : bi.blk = q
            · subst hq; rw [Array.getElem?_setIfInBounds_self_of_lt hlt, hh]
            · rw [Array.getElem?_setIfInBounds_ne hq]
          refine ⟨μ, .tuple #[], _, .inl ?_, .tuple _ _ .nil, Stp.same hR (w' := { w with heap := w.heap.setIfInBounds bi.blk (.map ees clock) }) hsame rfl rfl rfl⟩
          rw [hex, hv]
          simp [Builtin.delete_, hty, run_underlying hu, run_getObj_map hh, checkKey_ok hkt hd, findKey_ok hkt e1, run_setObj_map hh]
        · cases k1
      · cases h
    · cases h
  · cases h

theorem ok_clrM (hg : GOK P μ) (hT : TR μ tm a.tmps) (hR : Rel μ s w) {c : Call} {m : Operand} (ho : o.op = .call c) (hc : c.callee = .builtin .clear) (ha : c.args = #[m]) {t kt e : TypeId} (hty : c.argTypes[0]? = some t) (hu : P.underlying t = some (.map kt e))
    {am : AX} (hm : cx P m = some am) {v : AV} {s' : AS} (h : aop tm s (.clrM am) = some (v, s')) : Good μ s w ((execOp a.eval o).run P w) v s' := by
  have hmv := cx_ok hg hT hm
  have hex : (execOp a.eval o).run P w = ((Builtin.clear_ c.argTypes o.type #[a.eval m]).run P w).andThen fun v w' => .ok (.value v) w' := by
    simp [execOp, ho, resolve, hc, invoke, builtin, ha]
  simp only [aop] at h
  split at h
  · rename_i ev
    rw [ev] at hmv
    simp only [Option.some.injEq, Prod.mk.injEq] at h
    obtain ⟨rfl, rfl⟩ := h
    refine ⟨μ, .tuple #[], w, .inl ?_, .tuple _ _ .nil, Stp.refl hR⟩
    rw [hex]
    simp [Builtin.clear_, hty, hmv.nilmap_inv, run_underlying hu]
  · rename_i r ev
    rw [ev] at hmv
    obtain ⟨bi, hv, hbi⟩ := hmv.map_inv
    split at h
    · rename_i es hge
      simp only [Option.some.injEq, Prod.mk.injEq] at h
      obtain ⟨rfl, rfl⟩ := h
      obtain ⟨hro, ees, clock, hh, hms, hst0⟩ := hR.map hge hbi
      have hst := Stp.putMap hR hge hbi hh hro (es' := []) (ees' := #[]) (clock' := clock) .nil (Stamps.nil _)
      refine ⟨μ, .tuple #[], _, .inl ?_, .tuple _ _ .nil, hst⟩
      rw [hex, hv]
      simp [Builtin.clear_, hty, run_underlying hu, run_getObj_map hh, run_setObj_map hh]
    · cases h
  · cases h

theorem ok_clrS (hg : GOK P μ) (hT : TR μ tm a.tmps) (hR : Rel μ s w) {c : Call} {x : Operand} (ho : o.op = .call c) (hc : c.callee = .builtin .clear) (ha : c.args = #[x]) {t e : TypeId} (hty : c.argTypes[0]? = some t) (hu : P.underlying t = some (.slice e))
    {z : List AV} (hz : tzero P e = some z) (hz1 : 1 ≤ z.length) {ax : AX} (hx : cx P x = some ax) {v : AV} {s' : AS} (h : aop tm s (.clrS z ax) = some (v, s')) : Good μ s w ((execOp a.eval o).run P w) v s' := by
  have hxv := cx_ok hg hT hx
  obtain ⟨i, zv, hi, hzv, hzs⟩ := tzero_some hz
  have hex : (execOp a.eval o).run P w = ((Builtin.clear_ c.argTypes o.type #[a.eval x]).run P w).andThen fun v w' => .ok (.value v) w' := by
    simp [execOp, ho, resolve, hc, invoke, builtin, ha]
  simp only [aop] at h
  split at h
  · rename_i l cp ev
    rw [ev] at hxv
    simp only [Option.some.injEq, Prod.mk.injEq] at h
    obtain ⟨rfl, rfl⟩ := h
    obtain ⟨rfl, rfl, hv⟩ := hxv.nilslice_inv
    refine ⟨μ, .tuple #[], w, .inl ?_, .tuple _ _ .nil, Stp.refl hR⟩
    rw [hex]
    simp [Builtin.clear_, hty, hv, run_underlying hu]
  · rename_i b f l cp ev
    rw [ev] at hxv
    obtain ⟨bi, hbi, hlc, hcase⟩ := hxv.slice_inv
    split at h
    · rename_i hl0
      simp only [Option.some.injEq, Prod.mk.injEq] at h
      obtain ⟨rfl, rfl⟩ := h
      subst hl0
      refine ⟨μ, .tuple #[], w, .inl ?_, .tuple _ _ .nil, Stp.refl hR⟩
      rw [hex]
      rcases hcase with ⟨c', hv, _⟩ | ⟨_, _, f', hv⟩ <;> simp [Builtin.clear_, hty, hv, run_underlying hu]
    · rename_i hl0
      simp only [Option.map_eq_some_iff, Prod.mk.injEq] at h
      obtain ⟨s1, hs1, rfl, rfl⟩ := h
      have hrep := repX_rep (μ := μ) (n := l) (hzs μ) hz1 (l * zv.cells.size) (by rw [← (hzs μ).length, Array.length_toList])
      have hzc : (Builtin.zeroCells zv.cells l).toList = ((Array.range (l * zv.cells.size)).map (fun j => zv.cells[j % zv.cells.size]!)).toList := rfl
      obtain ⟨c1, c2, c3, c4⟩ := hR.stores hs1 hbi (hzc ▸ hrep)
      rw [← hzc] at c1 c2 c3 c4
      rcases hcase with ⟨c', hv, hcap⟩ | ⟨rfl, _⟩
      · have hst := run_storeCells_cells (P := P) bi.blk (bi.del + f) (Builtin.zeroCells zv.cells l).toList 0 w (by simpa using c1) (by simpa using c2) c3
        simp only [Nat.add_zero] at hst
        refine ⟨μ, .tuple #[], _, .inl ?_, .tuple _ _ .nil, c4⟩
        rw [hex, hv]
        obtain ⟨l', rfl⟩ : ∃ l', l = l' + 1 := ⟨l - 1, by omega⟩
        simp [Builtin.clear_, hty, run_underlying hu, run_zeroValue hi hzv, hst]
      · exact absurd rfl hl0
  · cases h

/-! ## Equality of plain structs -/

theorem equal_step2 {t : TypeId} {x y : Value} {b : Bool} (h : ∀ d, (Op.equalIn (d + 2) t x y).run P w = .ok b w) : (Op.equal t x y).run P w = .ok b w := h 9998

theorem scal_ok {t : TypeId} {d : TypeDesc} {kk : KK} (hu : P.underlying t = some d) (hd : keyDesc d = some kk) {x y : AV} {b : Bool} (h : keyEq kk x y = some b) {xv yv : Value} (hx : VR μ x xv) (hy : VR μ y yv) (n : Nat) :
    (Op.equalIn (n + 1) t xv yv).run P w = .ok b w := by
  rcases keyDesc_some hd with ⟨rfl, k, rfl⟩ | ⟨rfl, rfl⟩ | ⟨rfl, rfl⟩
  · cases x <;> cases y <;> first | (exfalso; simp [keyEq] at h; done) | skip
    rename_i k1 i1 k2 i2
    simp only [keyEq] at h
    rw [hx.int_inv, hy.int_inv]
    split at h
    · rename_i he
      subst he
      simp only [Option.some.injEq] at h; subst h
      simp [Op.equalIn, run_underlying hu]
    · cases h
  · cases x <;> cases y <;> first | (exfalso; simp [keyEq] at h; done) | skip
    simp only [keyEq, Option.some.injEq] at h; subst h
    obtain ⟨p, rfl, hp⟩ := hx.str_inv
    obtain ⟨q, rfl, hq⟩ := hy.str_inv
    simp [Op.equalIn, run_underlying hu, bytes_beq hp hq]
  · cases x <;> cases y <;> first | (exfalso; simp [keyEq] at h; done) | skip
    simp only [keyEq, Option.some.injEq] at h; subst h
    rw [hx.bool_inv, hy.bool_inv]
    simp [Op.equalIn, run_underlying hu]

theorem scal_part {t : TypeId} {d : TypeDesc} {kk : KK} (hu : P.underlying t = some d) (hd : keyDesc d = some kk) {cs : Array Value} {k : Nat} {v : Value} (h : cs[k]? = some v) : (part t cs k).run P w = .ok v w := by
  have : isAggD d = false := by rcases keyDesc_some hd with ⟨_, k, rfl⟩ | ⟨_, rfl⟩ | ⟨_, rfl⟩ <;> rfl
  simp [part, run_isAgg hu, this, h]

theorem flat_loop (n : Nat) (xs ys : Array Value) : ∀ (fl : List Field) (k : Nat) (ks : List KK) (l m : List AV) (b : Bool), ((fl.zipIdx k).mapM fun (f, i) => if f.offset = i ∧ f.name ≠ "_" then (P.underlying f.type).bind keyDesc else none) = some ks →
    VRs μ l (xs.toList.drop k) → VRs μ m (ys.toList.drop k) → scalEqs ks l m = some b →
    (forIn fl ((none, ()) : Option Bool × Unit) fun f _ =>
            (if f.name ≠ "_" then do
              let p ← part f.type xs f.offset
              let q ← part f.type ys f.offset
              let r ← Op.equalIn (n + 1) f.type p q
              if (!r) = true then pure (ForInStep.done (some false, ())) else pure (ForInStep.yield (none, ()))
            else pure (ForInStep.yield (none, ())) : Sem (ForInStep (Option Bool × Unit)))).run P w = .ok ((if b then none else some false), ()) w
  | [], k, ks, l, m, b, h1, h2, h3, h4 => by
    have := mapM_nil_some h1
    subst this
    cases l with
    | nil =>
      cases m with
      | nil => simp [scalEqs] at h4; subst h4; rfl
      | cons _ _ => simp [scalEqs] at h4
    | cons _ _ => cases m <;> simp [scalEqs] at h4
  | f :: fl, k, ks, l, m, b, h1, h2, h3, h4 => by
    rw [List.zipIdx_cons] at h1
    obtain ⟨kk, ks', e1, e2, rfl⟩ := mapM_cons_some h1
    simp only at e1
    split at e1
    · rename_i hc
      obtain ⟨hoff, hname⟩ := hc
      obtain ⟨d, hd, hkk⟩ := Option.bind_eq_some_iff.1 e1
      cases l with
      | nil => simp [scalEqs] at h4
      | cons x l =>
        cases m with
        | nil => simp [scalEqs] at h4
        | cons y m =>
          obtain ⟨xv, x1, x2⟩ := h2.get (n := 0) rfl
          obtain ⟨yv, y1, y2⟩ := h3.get (n := 0) rfl
          rw [List.getElem?_drop, Array.getElem?_toList, Nat.add_zero] at x1 y1
          have dx : VRs μ l (xs.toList.drop (k + 1)) := by
            have := h2.drop 1
            rwa [List.drop_drop] at this
          have dy : VRs μ m (ys.toList.drop (k + 1)) := by
            have := h3.drop 1
            rwa [List.drop_drop] at this
          simp only [scalEqs] at h4
          rw [List.forIn_cons]
          simp only [hname, ne_eq, not_false_eq_true, if_true, Sem.run_bind, hoff, scal_part hd hkk x1, scal_part hd hkk y1, Result.andThen_ok]
          split at h4
          · rename_i he
            rw [scal_ok hd hkk he x2 y2 n]
            simp only [Result.andThen_ok, Bool.not_true, Bool.false_eq_true, if_false, Sem.run_pure]
            exact flat_loop n xs ys fl (k + 1) ks' l m b e2 dx dy h4
          · rename_i he
            simp only [Option.some.injEq] at h4; subst h4
            rw [scal_ok hd hkk he x2 y2 n]
            simp
          · cases h4
    · cases e1

theorem equalIn_struct {t : TypeId} {fs : Array Field} (hu : P.underlying t = some (.struct fs)) (hs : P.stoodInHeld t = false) (xs ys : Array Value) (d : Nat) {b : Bool}
    (h : (forIn fs.toList ((none, ()) : Option Bool × Unit) fun f _ =>
            (if f.name ≠ "_" then do
              let p ← part f.type xs f.offset
              let q ← part f.type ys f.offset
              let r ← Op.equalIn d f.type p q
              if (!r) = true then pure (ForInStep.done (some false, ())) else pure (ForInStep.yield (none, ()))
            else pure (ForInStep.yield (none, ())) : Sem (ForInStep (Option Bool × Unit)))).run P w = .ok ((if b then none else some false), ()) w) :
    (Op.equalIn (d + 1) t (.agg xs) (.agg ys)).run P w = .ok b w := by
  simp only [Op.equalIn, Sem.run_bind, run_underlying hu, Result.andThen_ok, run_program, hs, Bool.false_eq_true, if_false]
  rw [← Array.forIn_toList, h]
  cases b <;> rfl

theorem ok_aggeq (hg : GOK P μ) (hT : TR μ tm a.tmps) (hR : Rel μ s w) {op : BinOp} {neg : Bool} (hop : (op = .eql ∧ neg = false) ∨ (op = .neq ∧ neg = true)) {t yt : TypeId} {fs : Array Field} (hu : P.underlying t = some (.struct fs))
    (hs : P.stoodInHeld t = false) (hgt : P.eqGuardType P.depth t = false) {ks : List KK} (hks : flatStruct P fs = some ks)
    {x y : Operand} (ho : o.op = .binOp op t x y yt) {ax ay : AX} (hx : cx P x = some ax) (hy : cx P y = some ay)
    {v : AV} {s' : AS} (h : aop tm s (.aggeq neg ks ax ay) = some (v, s')) : Good μ s w ((execOp a.eval o).run P w) v s' := by
  have h1 := cx_ok hg hT hx
  have h2 := cx_ok hg hT hy
  simp only [aop] at h
  split at h
  · rename_i l m e1 e2
    rw [e1] at h1
    rw [e2] at h2
    obtain ⟨xs, hxs, vx⟩ := h1.agg_inv
    obtain ⟨ys, hys, vy⟩ := h2.agg_inv
    simp only [Option.map_eq_some_iff, Prod.mk.injEq] at h
    obtain ⟨b, hb, rfl, rfl⟩ := h
    have he : (Op.equal t (.agg xs) (.agg ys)).run P w = .ok b w := by
      exact equal_step2 fun n => equalIn_struct hu hs xs ys (n + 1) (flat_loop n xs ys fs.toList 0 ks l m b hks vx vy hb)
    have hgd : (eqGuard op t x y (.agg xs) (.agg ys)).run P w = .ok () w := by
      rcases hop with ⟨rfl, _⟩ | ⟨rfl, _⟩ <;> simp [eqGuard, hgt]
    rcases hop with ⟨rfl, rfl⟩ | ⟨rfl, rfl⟩
    · exact ok_bin hR ho hys (by rw [hxs]; exact hgd) (by rw [hxs]; simp only [binOp, Sem.run_bind, he, Result.andThen_ok, Sem.run_pure]; rfl) (.bool _)
    · exact ok_bin hR ho hys (by rw [hxs]; exact hgd) (by rw [hxs]; simp only [binOp, Sem.run_bind, he, Result.andThen_ok, Sem.run_pure]; rfl) (.bool _)
  · cases h

end
end Go.Ai

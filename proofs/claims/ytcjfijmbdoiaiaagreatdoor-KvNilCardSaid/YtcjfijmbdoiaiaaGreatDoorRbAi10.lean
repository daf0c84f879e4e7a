/- The abstract interpreter's operations are the model's: addresses of parts, parts, lengths, new maps, rows and functions. -/
import Derived.Test.YtcjfijmbdoiaiaaGreatDoorRbAi9
set_option linter.unusedSimpArgs false
set_option linter.unusedVariables false
namespace Go.Ai

section
variable {P : Program} {μ : Mu} {s : AS} {w : World} {tm : Tm} {a : Act} {o : Oper}

theorem ok_fadr (hg : GOK P μ) (hT : TR μ tm a.tmps) (hR : Rel μ s w) {t : TypeId} {x : Operand} {k : Nat} (ho : o.op = .fieldAddr t x k) {fs : Array Field} (hu : P.underlying t = some (.struct fs)) {f : Field} (hf : fs[k]? = some f)
    {j : TypeInfo} (hj : P.info? f.type = some j) (h0 : j.size ≠ 0) {ax : AX} (hx : cx P x = some ax) {v : AV} {s' : AS} (h : aop tm s (.fadr f.offset ax) = some (v, s')) : Good μ s w ((execOp a.eval o).run P w) v s' := by
  have h1 := cx_ok hg hT hx
  simp only [aop] at h
  split at h
  · rename_i b q ev
    rw [ev] at h1
    obtain ⟨i, hp, hi⟩ := h1.ptr_inv
    simp only [Option.some.injEq, Prod.mk.injEq] at h
    obtain ⟨rfl, rfl⟩ := h
    have : (execOp a.eval o).run P w = .ok (.value (.pointer (some ⟨i.blk, i.del + (q + f.offset), none⟩))) w := by
      simp only [execOp, ho, Instr.fieldAt, Sem.run_bind, run_underlying hu, Result.andThen_ok, hf, hp, Instr.sureAddr, Sem.run_pure, fieldPlace, run_sizeOf hj, h0, if_false, Addr.add_lit, Nat.add_assoc]
    rw [this]; exact .value hR (.ptr _ _ i hi)
  · cases h

theorem part_ok {t : TypeId} {n : Nat} {g : Bool} (ht : tsz P t = some (n, g)) {cs : List AV} {cc : Array Value} (hv : VRs μ cs cc.toList) {off : Nat} {v : AV}
    (h : (if g then (takeX n (cs.drop off)).map (fun l => AV.agg l) else cs[off]?) = some v) : ∃ v', (part t cc off).run P w = .ok v' w ∧ VR μ v v' := by
  obtain ⟨i, d, hi, hd, hn, hgd⟩ := tsz_some ht
  unfold part
  simp only [Sem.run_bind, run_isAgg hd, Result.andThen_ok, hgd]
  cases g with
  | true =>
    simp only [if_true, Option.map_eq_some_iff] at h
    obtain ⟨l, hl, rfl⟩ := h
    obtain ⟨h1, rfl⟩ := takeX_some hl
    refine ⟨.agg (cc.extract off (off + i.size)), by simp only [if_true, Sem.run_bind, run_sizeOf hi, Result.andThen_ok, Sem.run_pure], .agg _ _ ?_⟩
    have : (cc.extract off (off + i.size)).toList = (cc.toList.drop off).take i.size := by
      rw [Array.toList_extract, List.extract_eq_take_drop]
      congr 1
      omega
    rw [this, hn]
    exact (hv.drop off).take n
  | false =>
    simp only [Bool.false_eq_true, if_false] at h ⊢
    obtain ⟨v', h1, h2⟩ := hv.get h
    rw [Array.getElem?_toList] at h1
    exact ⟨v', by simp [h1], h2⟩

theorem ok_fld (hg : GOK P μ) (hT : TR μ tm a.tmps) (hR : Rel μ s w) {t : TypeId} {x : Operand} {k : Nat} (ho : o.op = .field t x k) {fs : Array Field} (hu : P.underlying t = some (.struct fs)) {f : Field} (hf : fs[k]? = some f)
    {n : Nat} {g : Bool} (ht : tsz P f.type = some (n, g)) {ax : AX} (hx : cx P x = some ax) {v : AV} {s' : AS} (h : aop tm s (.fld g f.offset n ax) = some (v, s')) : Good μ s w ((execOp a.eval o).run P w) v s' := by
  have h1 := cx_ok hg hT hx
  simp only [aop] at h
  split at h
  · rename_i cs ev
    rw [ev] at h1
    obtain ⟨cc, hcc, hv⟩ := h1.agg_inv
    have h2 : (if g then (takeX n (cs.drop f.offset)).map (fun l => AV.agg l) else cs[f.offset]?) = some v ∧ s' = s := by
      cases g with
      | true =>
        simp only [if_true, Option.map_eq_some_iff, Prod.mk.injEq] at h ⊢
        obtain ⟨l, hl, rfl, rfl⟩ := h
        exact ⟨⟨l, hl, rfl⟩, rfl⟩
      | false =>
        simp only [Bool.false_eq_true, if_false, Option.map_eq_some_iff, Prod.mk.injEq] at h ⊢
        obtain ⟨l, hl, rfl, rfl⟩ := h
        exact ⟨hl, rfl⟩
    obtain ⟨h3, rfl⟩ := h2
    obtain ⟨v', e1, e2⟩ := part_ok (P := P) (w := w) ht hv h3
    have : (execOp a.eval o).run P w = .ok (.value v') w := by
      simp only [execOp, ho, Instr.field, Sem.run_bind, run_underlying hu, Result.andThen_ok, hf, hcc, asAgg, Sem.run_pure, e1]
    rw [this]; exact .value hR e2
  · cases h

theorem ok_iadrA (hg : GOK P μ) (hT : TR μ tm a.tmps) (hR : Rel μ s w) {t e : TypeId} {n : Nat} {x y : Operand} (ho : o.op = .indexAddr t x y) (hu : P.underlying t = some (.array n e)) {j : TypeInfo} (hj : P.info? e = some j)
    {ax ay : AX} (hx : cx P x = some ax) (hy : cx P y = some ay) {v : AV} {s' : AS} (h : aop tm s (.iadrA n j.size ax ay) = some (v, s')) : Good μ s w ((execOp a.eval o).run P w) v s' := by
  have h1 := cx_ok hg hT hx
  have h2 := cx_ok hg hT hy
  simp only [aop] at h
  split at h
  · rename_i b q k m e1 e2
    rw [e1] at h1
    rw [e2] at h2
    obtain ⟨i, hp, hi⟩ := h1.ptr_inv
    split at h
    · rename_i hm
      simp only [Option.some.injEq, Prod.mk.injEq] at h
      obtain ⟨rfl, rfl⟩ := h
      have : (execOp a.eval o).run P w = .ok (.value (.pointer (some ⟨i.blk, i.del + (q + m.toNat * j.size), none⟩))) w := by
        simp only [execOp, ho, Instr.indexAt, h2.int_inv, asIntOf, Sem.run_bind, run_underlying hu, Result.andThen_ok, hp, Instr.sureAddr, Sem.run_pure, hm, and_self, if_true, run_sizeOf hj, Addr.add_lit, Nat.add_assoc]
      rw [this]; exact .value hR (.ptr _ _ i hi)
    · cases h
  · cases h

theorem ok_iadrS (hg : GOK P μ) (hT : TR μ tm a.tmps) (hR : Rel μ s w) {t e : TypeId} {x y : Operand} (ho : o.op = .indexAddr t x y) (hu : P.underlying t = some (.slice e)) {j : TypeInfo} (hj : P.info? e = some j)
    {ax ay : AX} (hx : cx P x = some ax) (hy : cx P y = some ay) {v : AV} {s' : AS} (h : aop tm s (.iadrS j.size ax ay) = some (v, s')) : Good μ s w ((execOp a.eval o).run P w) v s' := by
  have h1 := cx_ok hg hT hx
  have h2 := cx_ok hg hT hy
  simp only [aop] at h
  split at h
  · rename_i b q l c k m e1 e2
    rw [e1] at h1
    rw [e2] at h2
    obtain ⟨i, hi, hlc, hcase⟩ := h1.slice_inv
    split at h
    · rename_i hm
      simp only [Option.some.injEq, Prod.mk.injEq] at h
      obtain ⟨rfl, rfl⟩ := h
      rcases hcase with ⟨c', hv, hcap⟩ | ⟨rfl, _, _, _⟩
      · have : (execOp a.eval o).run P w = .ok (.value (.pointer (some ⟨i.blk, i.del + (q + m.toNat * j.size), none⟩))) w := by
          simp only [execOp, ho, Instr.indexAt, h2.int_inv, asIntOf, Sem.run_bind, run_underlying hu, Result.andThen_ok, hv, Sem.run_pure, hm, and_self, if_true, run_sizeOf hj, Addr.add_lit, Nat.add_assoc]
        rw [this]; exact .value hR (.ptr _ _ i hi)
      · exfalso; omega
    · cases h
  · cases h

theorem ok_ixA (hg : GOK P μ) (hT : TR μ tm a.tmps) (hR : Rel μ s w) {t e : TypeId} {n : Nat} {x y : Operand} (ho : o.op = .index t x y) (hu : P.underlying t = some (.array n e)) {sz : Nat} {g : Bool} (ht : tsz P e = some (sz, g))
    {ax ay : AX} (hx : cx P x = some ax) (hy : cx P y = some ay) {v : AV} {s' : AS} (h : aop tm s (.ixA n g sz ax ay) = some (v, s')) : Good μ s w ((execOp a.eval o).run P w) v s' := by
  have h1 := cx_ok hg hT hx
  have h2 := cx_ok hg hT hy
  obtain ⟨j, d, hj, hd, hn, hgd⟩ := tsz_some ht
  simp only [aop] at h
  split at h
  · rename_i cs k m e1 e2
    rw [e1] at h1
    rw [e2] at h2
    obtain ⟨cc, hcc, hv⟩ := h1.agg_inv
    split at h
    · rename_i hm
      have h2' : (if g then (takeX sz (cs.drop (m.toNat * sz))).map (fun l => AV.agg l) else cs[m.toNat * sz]?) = some v ∧ s' = s := by
        cases g with
        | true =>
          simp only [if_true, Option.map_eq_some_iff, Prod.mk.injEq] at h ⊢
          obtain ⟨l, hl, rfl, rfl⟩ := h
          exact ⟨⟨l, hl, rfl⟩, rfl⟩
        | false =>
          simp only [Bool.false_eq_true, if_false, Option.map_eq_some_iff, Prod.mk.injEq] at h ⊢
          obtain ⟨l, hl, rfl, rfl⟩ := h
          exact ⟨hl, rfl⟩
      obtain ⟨h3, rfl⟩ := h2'
      obtain ⟨v', k1, k2⟩ := part_ok (P := P) (w := w) ht hv h3
      have : (execOp a.eval o).run P w = .ok (.value v') w := by
        simp only [execOp, ho, Instr.index, h2.int_inv, asIntOf, Sem.run_bind, run_underlying hu, Result.andThen_ok, hcc, Sem.run_pure, hm, and_self, if_true, run_sizeOf hj, hn, k1]
      rw [this]; exact .value hR k2
    · cases h
  · cases h

theorem ok_ixS (hg : GOK P μ) (hT : TR μ tm a.tmps) (hR : Rel μ s w) {t : TypeId} {x y : Operand} (ho : o.op = .index t x y) (hu : P.underlying t = some .string)
    {ax ay : AX} (hx : cx P x = some ax) (hy : cx P y = some ay) {v : AV} {s' : AS} (h : aop tm s (.ixS ax ay) = some (v, s')) : Good μ s w ((execOp a.eval o).run P w) v s' := by
  have h1 := cx_ok hg hT hx
  have h2 := cx_ok hg hT hy
  simp only [aop] at h
  split at h
  · rename_i l k m e1 e2
    rw [e1] at h1
    rw [e2] at h2
    obtain ⟨t', ht', hd⟩ := h1.str_inv
    split at h
    · rename_i hm
      simp only [Option.map_eq_some_iff, Prod.mk.injEq] at h
      obtain ⟨b, hb, rfl, rfl⟩ := h
      have hbb : t'[m.toNat]? = some b := by
        have hlt : m.toNat < t'.size := by rw [sz_data hd]; exact (List.getElem?_eq_some_iff.1 hb).1
        rw [getElem?_pos t' _ hlt]
        have : t'.data.toList[m.toNat]? = some b := by rw [hd]; exact hb
        rw [Array.getElem?_toList, Array.getElem?_eq_getElem (by exact hlt)] at this
        exact this
      have : (execOp a.eval o).run P w = .ok (.value (.int .u8 b.toNat)) w := by
        simp only [execOp, ho, Instr.index, h2.int_inv, asIntOf, Sem.run_bind, run_underlying hu, Result.andThen_ok, ht', Sem.run_pure, hm, if_true, hbb]
      rw [this]; exact .value hR (.int _ _)
    · cases h
  · cases h

theorem ok_extr (hg : GOK P μ) (hT : TR μ tm a.tmps) (hR : Rel μ s w) {x : Operand} {k : Nat} (ho : o.op = .extract x k) {ax : AX} (hx : cx P x = some ax) {v : AV} {s' : AS} (h : aop tm s (.extr ax k) = some (v, s')) :
    Good μ s w ((execOp a.eval o).run P w) v s' := by
  have h1 := cx_ok hg hT hx
  simp only [aop] at h
  split at h
  · rename_i vs ev
    rw [ev] at h1
    obtain ⟨cc, hcc, hv⟩ := h1.tuple_inv
    simp only [Option.map_eq_some_iff, Prod.mk.injEq] at h
    obtain ⟨u, hu, rfl, rfl⟩ := h
    obtain ⟨v', e1, e2⟩ := hv.get hu
    rw [Array.getElem?_toList] at e1
    have : (execOp a.eval o).run P w = .ok (.value v') w := by simp [execOp, ho, Instr.extract, hcc, e1]
    rw [this]; exact .value hR e2
  · cases h

theorem ok_mkI (hg : GOK P μ) (hT : TR μ tm a.tmps) (hR : Rel μ s w) {t : TypeId} {x : Operand} (ho : o.op = .makeInterface t x) {d : TypeDesc} (hu : P.underlying t = some d) (hd : ∀ ms, d ≠ .interface ms) {ax : AX} (hx : cx P x = some ax) :
    Good μ s w ((execOp a.eval o).run P w) (.iface t (ax.ev tm)) s := by
  have : (execOp a.eval o).run P w = .ok (.value (.iface t (a.eval x))) w := by
    simp only [execOp, ho, Instr.makeInterface, Sem.run_bind, run_underlying hu, Result.andThen_ok]
    cases d <;> first | rfl | exact absurd rfl (hd _)
  rw [this]; exact .value hR (.iface _ _ _ (cx_ok hg hT hx))

theorem ok_mkF (hg : GOK P μ) (hT : TR μ tm a.tmps) (hR : Rel μ s w) {fn : Fn} {first caps : Array Operand} (ho : o.op = .makeFunc fn first caps) {af ac : List AX} (hf : cxs P first = some af) (hc : cxs P caps = some ac) :
    Good μ s w ((execOp a.eval o).run P w) (.func fn (af.map (AX.ev tm)) (ac.map (AX.ev tm))) s := by
  have : (execOp a.eval o).run P w = .ok (.value (.func fn (first.map a.eval) (caps.map a.eval))) w := by simp [execOp, ho, Instr.makeFunc]
  rw [this]; exact .value hR (.func _ _ _ _ _ (cxs_ok hg hT hf) (cxs_ok hg hT hc))

theorem ok_mkM (μ : Mu) (w : World) {t : TypeId} (ho : o.op = .makeMap t none) : GoodA μ w ((execOp a.eval o).run P w) (.map []) (fun e => .map (some e)) := by
  refine ⟨⟨w.heap.size, 0, 0, 0, 0, false, false⟩, .map (some w.heap.size), w.alloc (.map #[] 0), .map #[] 0, ?_, rfl, rfl, rfl, rfl, rfl, rfl, fun e he => ⟨⟨rfl, #[], 0, ?_, .nil, Stamps.nil 0⟩, .map e _ (Mu.upd_same _ _ _)⟩⟩
  · simp [execOp, ho, Instr.makeMap]
  · show (w.heap.push (.map #[] 0))[w.heap.size]? = _
    simp

theorem ok_lenC (hR : Rel μ s w) {c : Call} {x : Operand} {t : TypeId} {n : Nat} (ho : o.op = .call c) (hc : c.callee = .builtin .len) (ha : c.args = #[x]) (ht : c.argTypes[0]? = some t)
    (hu : (∃ e, P.underlying t = some (.array n e)) ∨ ∃ p e, P.underlying t = some (.pointer p) ∧ P.underlying p = some (.array n e)) : Good μ s w ((execOp a.eval o).run P w) (.int .i64 n) s := by
  have : (execOp a.eval o).run P w = .ok (.value (.int .i64 n)) w := by
    rcases hu with ⟨e, hu⟩ | ⟨p, e, hu, hp⟩
    · simp [execOp, ho, resolve, hc, invoke, builtin, ha, Builtin.len_, ht, run_underlying hu, goInt]
    · simp [execOp, ho, resolve, hc, invoke, builtin, ha, Builtin.len_, ht, run_underlying hu, run_underlying hp, goInt]
  rw [this]; exact .value hR (.int _ _)

theorem MRs.length {l : List (AV × AV)} {l' : List MapEntry} (h : MRs μ l l') : l'.length = l.length := by
  induction h with
  | nil => rfl
  | cons => simp [*]

theorem VR.map_inv {b : Nat} {v : Value} (h : VR μ (.map (some b)) v) : ∃ i, v = .map (some i.blk) ∧ μ b = some i := by cases h; exact ⟨_, rfl, by assumption⟩

theorem Rel.map (hR : Rel μ s w) {b : Nat} {es : List (AV × AV)} (hg : s.get b = some (.map es)) {i : BI} (hi : μ b = some i) : i.ro = false ∧ ∃ ees clock, w.heap[i.blk]? = some (.map ees clock) ∧ MRs μ es ees.toList ∧ Stamps ees.toList clock := by
  obtain ⟨i', hi', h1, h2⟩ := hR.blk b _ hg
  rw [hi] at hi'; cases hi'
  exact ⟨h1, h2⟩

theorem run_getObj_map {r : Nat} {ees : Array MapEntry} {clock : Nat} (h : w.heap[r]? = some (.map ees clock)) : (getObj r).run P w = .ok (.map ees clock) w := by
  simp only [getObj, Sem.run, h]

theorem VR.nilmap_inv {v : Value} (h : VR μ (.map none) v) : v = .map none := by cases h; rfl

def lenDesc : LK → TypeDesc → Prop
  | .str, .string => True
  | .sl, .slice _ => True
  | .mp, .map _ _ => True
  | _, _ => False

theorem ok_len (hg : GOK P μ) (hT : TR μ tm a.tmps) (hR : Rel μ s w) {c : Call} {x : Operand} {t : TypeId} {d : TypeDesc} {k : LK} (ho : o.op = .call c) (hc : c.callee = .builtin .len) (ha : c.args = #[x]) (ht : c.argTypes[0]? = some t)
    (hu : P.underlying t = some d) (hd : lenDesc k d) {ax : AX} (hx : cx P x = some ax) {v : AV} {s' : AS} (h : aop tm s (.len k ax) = some (v, s')) :
    Good μ s w ((execOp a.eval o).run P w) v s' := by
  have h1 := cx_ok hg hT hx
  have key : ∀ n : Nat, (Builtin.len_ c.argTypes o.type #[a.eval x]).run P w = .ok (goInt n) w → Good μ s w ((execOp a.eval o).run P w) (.int .i64 n) s := by
    intro n hn
    have : (execOp a.eval o).run P w = .ok (.value (goInt n)) w := by simp [execOp, ho, resolve, hc, invoke, builtin, ha, hn]
    rw [this]; exact .value hR (.int _ _)
  simp only [aop] at h
  split at h
  · rename_i l ev
    cases d <;> first | (exfalso; simp [lenDesc] at hd; done) | skip
    rw [ev] at h1
    obtain ⟨bs, hbs, hdt⟩ := h1.str_inv
    simp only [Option.some.injEq, Prod.mk.injEq] at h
    obtain ⟨rfl, rfl⟩ := h
    exact key _ (by rw [hbs, ← sz_data hdt]; simp [Builtin.len_, ht, run_underlying hu])
  · rename_i ba l cp ev
    cases d <;> first | (exfalso; simp [lenDesc] at hd; done) | skip
    rw [ev] at h1
    simp only [Option.some.injEq, Prod.mk.injEq] at h
    obtain ⟨rfl, rfl⟩ := h
    refine key _ ?_
    cases ba with
    | none => obtain ⟨rfl, rfl, hv⟩ := h1.nilslice_inv; simp [Builtin.len_, ht, run_underlying hu, hv]
    | some bf =>
      obtain ⟨i, hi, hlc, hcase⟩ := VR.slice_inv (b := bf.1) (f := bf.2) h1
      rcases hcase with ⟨c', hv, _⟩ | ⟨rfl, _, f', hv⟩ <;> simp [Builtin.len_, ht, run_underlying hu, hv]
  · rename_i ev
    cases d <;> first | (exfalso; simp [lenDesc] at hd; done) | skip
    rw [ev] at h1
    simp only [Option.some.injEq, Prod.mk.injEq] at h
    obtain ⟨rfl, rfl⟩ := h
    exact key 0 (by simp [Builtin.len_, ht, run_underlying hu, h1.nilmap_inv])
  · rename_i r ev
    cases d <;> first | (exfalso; simp [lenDesc] at hd; done) | skip
    rw [ev] at h1
    obtain ⟨i, hv, hi⟩ := h1.map_inv
    split at h
    · rename_i es hg'
      simp only [Option.some.injEq, Prod.mk.injEq] at h
      obtain ⟨rfl, rfl⟩ := h
      obtain ⟨_, ees, clock, hh, hm, _⟩ := hR.map hg' hi
      refine key _ ?_
      have hlen := hm.length
      rw [Array.length_toList] at hlen
      simp [Builtin.len_, ht, hv, run_underlying hu, run_getObj_map hh, hlen]
    · cases h
  · cases h

theorem ok_cap (hg : GOK P μ) (hT : TR μ tm a.tmps) (hR : Rel μ s w) {c : Call} {x : Operand} {t e : TypeId} (ho : o.op = .call c) (hc : c.callee = .builtin .cap) (ha : c.args = #[x]) (ht : c.argTypes[0]? = some t)
    (hu : P.underlying t = some (.slice e)) {ax : AX} (hx : cx P x = some ax) {v : AV} {s' : AS} (h : aop tm s (.cap ax) = some (v, s')) : Good μ s w ((execOp a.eval o).run P w) v s' := by
  have h1 := cx_ok hg hT hx
  have key : ∀ n : Nat, (Builtin.cap_ c.argTypes o.type #[a.eval x]).run P w = .ok (goInt n) w → Good μ s w ((execOp a.eval o).run P w) (.int .i64 n) s := by
    intro n hn
    have : (execOp a.eval o).run P w = .ok (.value (goInt n)) w := by simp [execOp, ho, resolve, hc, invoke, builtin, ha, hn]
    rw [this]; exact .value hR (.int _ _)
  simp only [aop] at h
  split at h
  · rename_i l cp ev
    rw [ev] at h1
    simp only [Option.some.injEq, Prod.mk.injEq] at h
    obtain ⟨rfl, rfl⟩ := h
    obtain ⟨rfl, rfl, hv⟩ := h1.nilslice_inv
    exact key _ (by simp [Builtin.cap_, ht, run_underlying hu, hv])
  · rename_i b f l cp ev
    rw [ev] at h1
    split at h
    · rename_i cs esz ex ro hgb
      split at h
      · rename_i hex
        simp only [Option.some.injEq, Prod.mk.injEq] at h
        obtain ⟨rfl, rfl⟩ := h
        obtain ⟨i, hi, hlc, hcase⟩ := h1.slice_inv
        obtain ⟨i', hi', hb1, hb2, hb3, hb4, _⟩ := hR.blk b _ hgb
        rw [hi] at hi'; cases hi'
        rcases hcase with ⟨c', hv, hcap⟩ | ⟨rfl, rfl, f', hv⟩
        · have : c' = cp := by
            rcases hcap with h | ⟨x1, x2, _, _⟩
            · exact h
            · rw [hb3] at x1
              rw [x1, ← hb2, ← hb1, x2] at hex
              simp at hex
          subst this
          exact key _ (by simp [Builtin.cap_, ht, run_underlying hu, hv])
        · exact key 0 (by simp [Builtin.cap_, ht, run_underlying hu, hv])
      · cases h
    · cases h
  · cases h

end
end Go.Ai

/- The abstract interpreter's operations are the model's: operands, and the operations that touch no memory. -/
import Derived.Test.YtcjfijmbdoiaiaaGreatDoorRbAi3
import Derived.Lib.Strings
import Derived.Laws.Concat
import Derived.Laws.IdiomStrings
import Derived.Laws.BytesString
set_option linter.unusedSimpArgs false
set_option linter.unusedVariables false
namespace Go.Ai

section
variable {P : Program} {μ : Mu} {s : AS} {w : World} {tm : Tm} {a : Act}

/-- The variables' blocks are where they are. -/
def GOK (P : Program) (μ : Mu) : Prop := ∀ g, g < P.globals.size → ∃ i, μ g = some i ∧ i.blk = g ∧ i.del = 0

theorem GOK.mono {μ' : Mu} (h : GOK P μ) (hm : Mu.le μ μ') : GOK P μ' := fun g hg => let ⟨i, h1, h2⟩ := h g hg; ⟨i, hm g i h1, h2⟩

/-- The slots. -/
def TR (μ : Mu) (tm : Tm) (tmps : Array Value) : Prop := ∀ t, VR μ (tm.at t) (tmps.getD t Go.undef)

theorem TR.mono {μ' : Mu} {tmps : Array Value} (h : TR μ tm tmps) (hm : Mu.le μ μ') : TR μ' tm tmps := fun t => (h t).mono hm

theorem mapM_cons_some {α β : Type} {f : α → Option β} {x : α} {l : List α} {r : List β} (h : (x :: l).mapM f = some r) : ∃ y ys, f x = some y ∧ l.mapM f = some ys ∧ r = y :: ys := by
  rw [List.mapM_cons] at h
  cases hx : f x with
  | none => simp [hx] at h
  | some y =>
    cases hl : l.mapM f with
    | none => simp [hx, hl] at h
    | some ys => simp [hx, hl] at h; exact ⟨y, ys, rfl, rfl, h.symm⟩

theorem mapM_nil_some {α β : Type} {f : α → Option β} {r : List β} (h : ([] : List α).mapM f = some r) : r = [] := by
  simpa using h

theorem ofV_ok : ∀ (n : Nat) (v : Value) (x : AV), ofV n v = some x → VR μ x v
  | 0, _, _, h => by simp [ofV] at h
  | n + 1, v, x, h => by
    have all : ∀ (l : List Value) (r : List AV), l.mapM (ofV n) = some r → VRs μ r l := by
      intro l
      induction l with
      | nil => intro r hr; rw [mapM_nil_some hr]; exact .nil
      | cons v l ih =>
        intro r hr
        obtain ⟨y, ys, h1, h2, rfl⟩ := mapM_cons_some hr
        exact .cons _ _ _ _ (ofV_ok n v y h1) (ih ys h2)
    unfold ofV at h
    split at h <;> first
      | (cases h; done)
      | (simp only [Option.some.injEq] at h; subst h; constructor; done)
      | (simp only [Option.some.injEq] at h; subst h; exact .str _ _ rfl)
      | (simp only [Option.map_eq_some_iff] at h; obtain ⟨r, hr, rfl⟩ := h; constructor; exact all _ _ hr)

theorem cx_ok (hg : GOK P μ) (hT : TR μ tm a.tmps) {x : Operand} {ax : AX} (h : cx P x = some ax) : VR μ (ax.ev tm) (a.eval x) := by
  cases x with
  | tmp t => simp [cx] at h; subst h; exact hT t
  | const v =>
    simp [cx] at h
    obtain ⟨x, hx, rfl⟩ := h
    exact ofV_ok 4 v x hx
  | global g =>
    simp only [cx] at h
    split at h
    · rename_i hlt
      simp at h; subst h
      obtain ⟨i, h1, h2, h3⟩ := hg g hlt
      have := VR.ptr (μ := μ) g 0 i h1
      rw [h2, h3] at this
      exact this
    · cases h
  | func f => simp [cx] at h; subst h; exact .func _ _ _ _ _ .nil .nil

theorem cxs_ok (hg : GOK P μ) (hT : TR μ tm a.tmps) {xs : Array Operand} {l : List AX} (h : cxs P xs = some l) : VRs μ (l.map (AX.ev tm)) (xs.map a.eval).toList := by
  unfold cxs at h
  rw [Array.toList_map]
  generalize xs.toList = ys at h
  induction ys generalizing l with
  | nil => rw [mapM_nil_some h]; exact .nil
  | cons x ys ih =>
    obtain ⟨y, zs, h1, h2, rfl⟩ := mapM_cons_some h
    exact .cons _ _ _ _ (cx_ok hg hT h1) (ih h2)

/-- What an operation's run comes to. -/
def Good (μ : Mu) (s : AS) (w : World) (R : Result Next) (v : AV) (s' : AS) : Prop :=
  ∃ μ' v' w', (R = .ok (.value v') w' ∨ (R = .ok .skip w' ∧ v' = Go.undef)) ∧ VR μ' v v' ∧ Stp μ s w μ' s' w'

/-- The same of a value's run. -/
def GoodV (μ : Mu) (s : AS) (w : World) (R : Result Value) (v : AV) (s' : AS) : Prop :=
  ∃ μ' v' w', R = .ok v' w' ∧ VR μ' v v' ∧ Stp μ s w μ' s' w'

def GoodU (μ : Mu) (s : AS) (w : World) (R : Result Unit) (s' : AS) : Prop :=
  ∃ μ' w', R = .ok () w' ∧ Stp μ s w μ' s' w'

theorem GoodV.same (hR : Rel μ s w) {v : AV} {v' : Value} {R : Result Value} (h : R = .ok v' w) (hv : VR μ v v') : GoodV μ s w R v s := ⟨μ, v', w, h, hv, Stp.refl hR⟩

theorem GoodV.good {S : Sem Value} {v : AV} {s' : AS} (h : GoodV μ s w (S.run P w) v s') : Good μ s w ((do pure (Next.value (← S)) : Sem Next).run P w) v s' := by
  obtain ⟨μ', v', w', h1, h2, h3⟩ := h
  exact ⟨μ', v', w', .inl (by simp [h1]), h2, h3⟩

theorem GoodU.good {S : Sem Unit} {s' : AS} (h : GoodU μ s w (S.run P w) s') : Good μ s w ((do S; pure Next.skip : Sem Next).run P w) AV.undef s' := by
  obtain ⟨μ', w', h1, h3⟩ := h
  exact ⟨μ', Go.undef, w', .inr ⟨by simp [h1], rfl⟩, VR.undef, h3⟩

theorem Good.value {v : AV} {v' : Value} (hR : Rel μ s w) (h : VR μ v v') : Good μ s w (.ok (.value v') w) v s := ⟨μ, v', w, .inl rfl, h, Stp.refl hR⟩

/-! ## Numbers, strings, bools -/

theorem VR.int_inv {k : IntKind} {n : Int} {v : Value} (h : VR μ (.int k n) v) : v = .int k n := by cases h; rfl
theorem VR.bool_inv {b : Bool} {v : Value} (h : VR μ (.bool b) v) : v = .bool b := by cases h; rfl
theorem VR.str_inv {l : List UInt8} {v : Value} (h : VR μ (.str l) v) : ∃ t : ByteArray, v = .string t ∧ t.data.toList = l := by cases h; exact ⟨_, rfl, by assumption⟩
theorem VR.agg_inv {l : List AV} {v : Value} (h : VR μ (.agg l) v) : ∃ cs, v = .agg cs ∧ VRs μ l cs.toList := by cases h; exact ⟨_, rfl, by assumption⟩
theorem VR.tuple_inv {l : List AV} {v : Value} (h : VR μ (.tuple l) v) : ∃ cs, v = .tuple cs ∧ VRs μ l cs.toList := by cases h; exact ⟨_, rfl, by assumption⟩
theorem VR.ptr_inv {b o : Nat} {v : Value} (h : VR μ (.ptr (some (b, o))) v) : ∃ i, v = .pointer (some ⟨i.blk, i.del + o, none⟩) ∧ μ b = some i := by cases h; exact ⟨_, rfl, by assumption⟩

theorem VR.of_bytes (l : List UInt8) : VR μ (.str l) (.string ⟨l.toArray⟩) := .str l _ rfl

theorem ibin_ok (w : World) (t : TypeId) {op : BinOp} {k k' : IntKind} {n m : Int} {v : AV} (h : ibinX op k n k' m = some v) :
    ∃ v', (binOp op t (.int k n) (.int k' m)).run P w = .ok v' w ∧ VR μ v v' := by
  unfold ibinX at h
  split at h
  · split at h
    · cases h
    · rename_i hm; simp at h; subst h; exact ⟨_, by simp [binOp, Op.shift, hm], .int _ _⟩
  · split at h
    · cases h
    · rename_i hm; simp at h; subst h; exact ⟨_, by simp [binOp, Op.shift, hm], .int _ _⟩
  · rename_i hsl hsr
    split at h
    · cases h
    · rename_i hk
      have hk' : k = k' := by simpa using hk
      subst hk'
      split at h
      · simp at h; subst h; exact ⟨_, by simp [binOp, Op.intArith], .int _ _⟩
      · simp at h; subst h; exact ⟨_, by simp [binOp, Op.intArith], .int _ _⟩
      · simp at h; subst h; exact ⟨_, by simp [binOp, Op.intArith], .int _ _⟩
      · split at h
        · cases h
        · rename_i h0; simp at h; subst h; exact ⟨_, by simp [binOp, Op.intDiv, h0], .int _ _⟩
      · split at h
        · cases h
        · rename_i h0; simp at h; subst h; exact ⟨_, by simp [binOp, Op.intDiv, h0], .int _ _⟩
      · simp at h; subst h; exact ⟨_, by simp [binOp, Op.intBits], .int _ _⟩
      · simp at h; subst h; exact ⟨_, by simp [binOp, Op.intBits], .int _ _⟩
      · simp at h; subst h; exact ⟨_, by simp [binOp, Op.intBits], .int _ _⟩
      · simp at h; subst h; exact ⟨_, by simp [binOp, Op.intBits], .int _ _⟩
      · simp at h; subst h; exact ⟨_, by simp [binOp, Op.intCmp], .bool _⟩
      · simp at h; subst h; exact ⟨_, by simp [binOp, Op.intCmp], .bool _⟩
      · simp at h; subst h; exact ⟨_, by simp [binOp, Op.intCmp], .bool _⟩
      · simp at h; subst h; exact ⟨_, by simp [binOp, Op.intCmp], .bool _⟩
      · simp at h; subst h; exact ⟨_, by simp [binOp, Op.intCmp], .bool _⟩
      · simp at h; subst h; exact ⟨_, by simp [binOp, Op.intCmp], .bool _⟩
      · cases h

theorem sz_data {t : ByteArray} {l : List UInt8} (h : t.data.toList = l) : t.size = l.length := by
  rw [← h, Array.length_toList]
  rfl

theorem sbin_ok (w : World) (ty : TypeId) {op : BinOp} {x y : ByteArray} {l m : List UInt8} {v : AV} (hx : x.data.toList = l) (hy : y.data.toList = m) (h : sbinX op l m = some v) :
    ∃ v', (binOp op ty (.string x) (.string y)).run P w = .ok v' w ∧ VR μ v v' := by
  have hs1 := sz_data hx
  have hs2 := sz_data hy
  have e1 : x.toList = l := by rw [ByteArray.toList_eq, hx]
  have e2 : y.toList = m := by rw [ByteArray.toList_eq, hy]
  unfold sbinX at h
  split at h
  · split at h
    · rename_i hlt
      simp only [Option.some.injEq] at h; subst h
      have hle : x.size + y.size ≤ 9223372036854775807 := by rw [hs1, hs2]; exact Nat.le_of_lt (Nat.lt_of_lt_of_le hlt (by decide))
      refine ⟨_, (show (binOp .add ty (.string x) (.string y)).run P w = _ from run_string_add_sum (P := P) w x y hle), .str _ _ ?_⟩
      rw [ByteArray.data_append, Array.toList_append, hx, hy]
    · cases h
  all_goals first
    | (simp at h; subst h; exact ⟨_, by simp [binOp, Op.stringOp, e1, e2], .bool _⟩)
    | (cases h)

/-! ## Operations that touch no memory -/

variable {o : Oper}

theorem ok_move (hg : GOK P μ) (hT : TR μ tm a.tmps) (hR : Rel μ s w) {x : Operand} (ho : o.op = .move x ∨ o.op = .assign x) {ax : AX} (hx : cx P x = some ax) :
    Good μ s w ((execOp a.eval o).run P w) (ax.ev tm) s := by
  have : (execOp a.eval o).run P w = .ok (.value (a.eval x)) w := by rcases ho with ho | ho <;> simp [execOp, ho]
  rw [this]
  exact .value hR (cx_ok hg hT hx)

theorem ok_pick (hg : GOK P μ) (hT : TR μ tm a.tmps) (hR : Rel μ s w) {c x y : Operand} (ho : o.op = .pick c x y) {ac ax ay : AX} (hc : cx P c = some ac) (hx : cx P x = some ax) (hy : cx P y = some ay)
    {t : Bool} (ht : ac.ev tm = .bool t) : Good μ s w ((execOp a.eval o).run P w) (if t then ax.ev tm else ay.ev tm) s := by
  have h1 := cx_ok hg hT hc
  rw [ht] at h1
  have h2 := h1.bool_inv
  have : (execOp a.eval o).run P w = .ok (.value (if t then a.eval x else a.eval y)) w := by simp [execOp, ho, h2, asBool]
  rw [this]
  refine .value hR ?_
  cases t
  · exact cx_ok hg hT hy
  · exact cx_ok hg hT hx

theorem ok_nilck (hg : GOK P μ) (hT : TR μ tm a.tmps) (hR : Rel μ s w) {x : Operand} (ho : o.op = .nilCheck x) {ax : AX} (hx : cx P x = some ax) {v : AV} {s' : AS} (h : aop tm s (.nilck ax) = some (v, s')) :
    Good μ s w ((execOp a.eval o).run P w) v s' := by
  have h1 := cx_ok hg hT hx
  simp only [aop] at h
  split at h
  · cases h
  · cases h
  · cases h
  · cases h
  · rename_i n1 n2 n3 n4
    simp only [Option.some.injEq, Prod.mk.injEq] at h
    obtain ⟨rfl, rfl⟩ := h
    have : (execOp a.eval o).run P w = .ok (.value (a.eval x)) w := by
      simp only [execOp, ho]
      generalize ax.ev tm = u at h1 n1 n2 n3 n4
      generalize a.eval x = u' at h1
      cases h1 <;> first
        | rfl
        | exact absurd rfl n1
        | exact absurd rfl n2
        | exact absurd rfl n3
        | skip
      rename_i fn fa ca fc cc hf hc
      cases fn <;> first | rfl | exact absurd rfl (n4 _ _ _)
    rw [this]
    exact .value hR h1

theorem ok_bin (hR : Rel μ s w) {op : BinOp} {t yt : TypeId} {x y : Operand} (ho : o.op = .binOp op t x y yt)
    {u v' : Value} {v : AV} (hu : a.eval y = u) (hgd : (eqGuard op t x y (a.eval x) u).run P w = .ok () w) (hb : (binOp op t (a.eval x) u).run P w = .ok v' w) (hv : VR μ v v') :
    Good μ s w ((execOp a.eval o).run P w) v s := by
  have : (execOp a.eval o).run P w = .ok (.value v') w := by simp [execOp, ho, hu, hgd, hb]
  rw [this]
  exact .value hR hv

theorem ok_ibin (hg : GOK P μ) (hT : TR μ tm a.tmps) (hR : Rel μ s w) {op : BinOp} {t yt : TypeId} {x y : Operand} (ho : o.op = .binOp op t x y yt) {ax ay : AX} (hx : cx P x = some ax) (hy : cx P y = some ay)
    {v : AV} {s' : AS} (h : aop tm s (.ibin op ax ay) = some (v, s')) : Good μ s w ((execOp a.eval o).run P w) v s' := by
  have h1 := cx_ok hg hT hx
  have h2 := cx_ok hg hT hy
  simp only [aop] at h
  split at h
  · rename_i k n k' m e1 e2
    rw [e1] at h1
    rw [e2] at h2
    simp only [Option.map_eq_some_iff, Prod.mk.injEq] at h
    obtain ⟨v0, hv, rfl, rfl⟩ := h
    obtain ⟨v', hb, hr⟩ := ibin_ok (P := P) (μ := μ) w t hv
    exact ok_bin hR ho (v' := v') h2.int_inv (by rw [h1.int_inv, eqGuard_at_int]; rfl) (by rw [h1.int_inv]; exact hb) hr
  · cases h

theorem ok_sbin (hg : GOK P μ) (hT : TR μ tm a.tmps) (hR : Rel μ s w) {op : BinOp} {t yt : TypeId} {x y : Operand} (ho : o.op = .binOp op t x y yt) {ax ay : AX} (hx : cx P x = some ax) (hy : cx P y = some ay)
    {v : AV} {s' : AS} (h : aop tm s (.sbin op ax ay) = some (v, s')) : Good μ s w ((execOp a.eval o).run P w) v s' := by
  have h1 := cx_ok hg hT hx
  have h2 := cx_ok hg hT hy
  simp only [aop] at h
  split at h
  · rename_i l m e1 e2
    rw [e1] at h1
    rw [e2] at h2
    simp only [Option.map_eq_some_iff, Prod.mk.injEq] at h
    obtain ⟨v0, hv, rfl, rfl⟩ := h
    obtain ⟨p, hp, hl⟩ := h1.str_inv
    obtain ⟨q, hq, hm⟩ := h2.str_inv
    obtain ⟨v', hb, hr⟩ := sbin_ok (P := P) (μ := μ) w t hl hm hv
    exact ok_bin hR ho (v' := v') hq (by rw [hp, eqGuard_at_string]; rfl) (by rw [hp]; exact hb) hr
  · cases h

theorem ok_un (hg : GOK P μ) (hT : TR μ tm a.tmps) (hR : Rel μ s w) {op : UnOp} {t : TypeId} {x : Operand} (ho : o.op = .unOp op t x) {ax : AX} (hx : cx P x = some ax)
    {v : AV} {s' : AS} (h : aop tm s (.un op ax) = some (v, s')) : Good μ s w ((execOp a.eval o).run P w) v s' := by
  have h1 := cx_ok hg hT hx
  simp only [aop] at h
  split at h
  · rename_i k n e
    rw [e] at h1
    simp only [Option.some.injEq, Prod.mk.injEq] at h
    obtain ⟨rfl, rfl⟩ := h
    have : (execOp a.eval o).run P w = .ok (.value (.int k (k.wrap (0 - n)))) w := by simp [execOp, ho, h1.int_inv, Op.unary, Op.intArith]
    rw [this]; exact .value hR (.int _ _)
  · rename_i k n e
    rw [e] at h1
    simp only [Option.some.injEq, Prod.mk.injEq] at h
    obtain ⟨rfl, rfl⟩ := h
    have : (execOp a.eval o).run P w = .ok (.value (.int k (k.wrap (BitVec.ofInt k.bits (if k.signed then -1 else k.max) ^^^ BitVec.ofInt k.bits n).toNat))) w := by
      simp [execOp, ho, h1.int_inv, Op.unary, Op.intBits]
    rw [this]; exact .value hR (.int _ _)
  · rename_i b e
    rw [e] at h1
    simp only [Option.some.injEq, Prod.mk.injEq] at h
    obtain ⟨rfl, rfl⟩ := h
    have : (execOp a.eval o).run P w = .ok (.value (.bool !b)) w := by simp [execOp, ho, h1.bool_inv, Op.unary]
    rw [this]; exact .value hR (.bool _)
  · cases h

end
end Go.Ai

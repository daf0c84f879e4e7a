/- A region that draws its order: the heap and the slots at each stage are those of the pass in the order of the text. -/
import Derived.Test.YtcjfijmbdoiaiaaGreatDoorRbAi19
set_option linter.unusedSimpArgs false
set_option linter.unusedVariables false
namespace Go.Ai

/-! ## Those that stand before -/

theorem before_fold (A : Array Nat) (j : Nat) : ∀ (es : List Edge) (s : Nat), (es.foldl (fun s e => if Region.binds .any e then s ||| 2 ^ e.on ||| A.getD e.on 0 else s) s).testBit j = true →
    s.testBit j = true ∨ ∃ e ∈ es, Region.binds .any e = true ∧ (e.on = j ∨ (A.getD e.on 0).testBit j = true)
  | [], _, h => .inl h
  | e :: es, s, h => by
    simp only [List.foldl_cons] at h
    rcases before_fold A j es _ h with h1 | ⟨e', h1, h2, h3⟩
    · split at h1
      · rename_i hb
        simp only [Nat.testBit_or, Bool.or_eq_true] at h1
        rcases h1 with (h1 | h1) | h1
        · exact .inl h1
        · rw [Nat.testBit_two_pow] at h1
          exact .inr ⟨e, by simp, hb, .inl (by simpa using h1)⟩
        · exact .inr ⟨e, by simp, hb, .inr h1⟩
      · exact .inl h1
    · exact .inr ⟨e', by simp [h1], h2, h3⟩

def beforeStep (acc : Array Nat) (o : Oper) : Array Nat :=
  acc.push (o.after.foldl (fun s e => if Region.binds .any e then s ||| 2 ^ e.on ||| acc.getD e.on 0 else s) 0)

theorem before_list : ∀ (l pre : List Oper) (A : Array Nat), A.size = pre.length →
    (∀ (i : Nat) (o : Oper) (b : Nat), pre[i]? = some o → A[i]? = some b → ∀ j, b.testBit j = true → ∃ e ∈ o.after, Region.binds .any e = true ∧ (e.on = j ∨ (A.getD e.on 0).testBit j = true)) →
    (l.foldl beforeStep A).size = (pre ++ l).length ∧
    ∀ (i : Nat) (o : Oper) (b : Nat), (pre ++ l)[i]? = some o → (l.foldl beforeStep A)[i]? = some b → ∀ j, b.testBit j = true → ∃ e ∈ o.after, Region.binds .any e = true ∧ (e.on = j ∨ ((l.foldl beforeStep A).getD e.on 0).testBit j = true)
  | [], pre, A, hs, h => by simp only [List.append_nil, List.foldl_nil]; exact ⟨hs, h⟩
  | o :: l, pre, A, hs, h => by
    have key := before_list l (pre ++ [o]) (beforeStep A o) (by simp [beforeStep, hs]) ?_
    · rw [List.append_assoc] at key
      exact key
    · have grow : ∀ k j, (A.getD k 0).testBit j = true → ((beforeStep A o).getD k 0).testBit j = true := by
        intro k j hk
        by_cases hlt : k < A.size
        · have : (beforeStep A o).getD k 0 = A.getD k 0 := by
            simp only [beforeStep, Array.getD_eq_getD_getElem?]
            rw [Array.getElem?_push_lt hlt, Array.getElem?_eq_getElem hlt]
          rw [this]; exact hk
        · simp only [Array.getD_eq_getD_getElem?] at hk
          rw [Array.getElem?_eq_none (by omega)] at hk
          simp at hk
      intro i o' b hi hb j hj
      by_cases hlt : i < pre.length
      · rw [List.getElem?_append_left hlt] at hi
        have hb2 : A[i]? = some b := by
          have hlt2 : i < A.size := by omega
          simp only [beforeStep] at hb
          rw [Array.getElem?_push_lt hlt2] at hb
          rw [Array.getElem?_eq_getElem hlt2]
          exact hb
        obtain ⟨e, h1, h2, h3⟩ := h i o' b hi hb2 j hj
        refine ⟨e, h1, h2, ?_⟩
        rcases h3 with h3 | h3
        · exact .inl h3
        · exact .inr (grow _ _ h3)
      · have hlt2 := (List.getElem?_eq_some_iff.1 hi).1
        simp at hlt2
        have hie : i = pre.length := by omega
        subst hie
        simp at hi
        subst hi
        have hbe : b = o.after.foldl (fun s e => if Region.binds .any e then s ||| 2 ^ e.on ||| A.getD e.on 0 else s) 0 := by
          unfold beforeStep at hb
          rw [← hs, Array.getElem?_push_size] at hb
          exact (Option.some.inj hb).symm
        rw [hbe, ← Array.foldl_toList] at hj
        rcases before_fold A j o.after.toList 0 hj with h1 | ⟨e, h1, h2, h3⟩
        · simp at h1
        · refine ⟨e, by simpa using h1, h2, ?_⟩
          rcases h3 with h3 | h3
          · exact .inl h3
          · exact .inr (grow _ _ h3)

theorem before_spec (ops : Array Oper) : (Region.before ops).size = ops.size ∧
    ∀ (i : Nat) (o : Oper) (b : Nat), ops[i]? = some o → (Region.before ops)[i]? = some b → ∀ j, b.testBit j = true → ∃ e ∈ o.after, Region.binds .any e = true ∧ (e.on = j ∨ ((Region.before ops).getD e.on 0).testBit j = true) := by
  have key := before_list ops.toList [] #[] rfl (fun i o b h => by simp at h)
  have e : Region.before ops = ops.toList.foldl beforeStep #[] := by
    unfold Region.before
    rw [← Array.foldl_toList]
    rfl
  rw [e]
  simp only [List.nil_append, Array.length_toList] at key
  refine ⟨key.1, fun i o b hi hb => key.2 i o b ?_ hb⟩
  rw [Array.getElem?_toList]; exact hi

/-- Edges that bind go back: so those that stand before have lower places. -/
theorem before_back {ops : Array Oper} (hb : ∀ (i : Nat) (o : Oper), ops[i]? = some o → ∀ e ∈ o.after, Region.binds .any e = true → e.on < i) :
    ∀ (i : Nat) (b : Nat), (Region.before ops)[i]? = some b → ∀ j, b.testBit j = true → j < i := by
  intro i
  induction i using Nat.strongRecOn with
  | _ i ih =>
    intro b hbi j hj
    obtain ⟨hsz, hsp⟩ := before_spec ops
    have hlt : i < ops.size := by rw [← hsz]; exact (Array.getElem?_eq_some_iff.1 hbi).1
    have ho : ops[i]? = some ops[i] := Array.getElem?_eq_getElem hlt
    obtain ⟨e, h1, h2, h3⟩ := hsp i _ b ho hbi j hj
    have he := hb i _ ho e h1 h2
    rcases h3 with h3 | h3
    · omega
    · have hlt2 : e.on < (Region.before ops).size := by omega
      rw [Array.getD_eq_getD_getElem?, Array.getElem?_eq_getElem hlt2, Option.getD_some] at h3
      have := ih e.on he _ (Array.getElem?_eq_getElem hlt2) j h3
      omega

/-! ## What holds of the records -/

structure DCtx (call : ACall) (base : Nat) (h₀ : AS) (tm₀ : Tm) (recs : List DRec) : Prop where
  recd : ∀ (i : Nat) (r : DRec), recs[i]? = some r → Recd call base h₀ tm₀ recs i r
  ord : ∀ (i j : Nat) (ri rj : DRec), i < j → recs[i]? = some ri → recs[j]? = some rj →
    rj.bf.testBit i = true ∨ (¬ (ri.op.op.kind = .write ∧ rj.op.op.kind = .write) ∧ (∀ d, ri.op.dst = some d → d ∉ rj.op.names) ∧ (∀ d, rj.op.dst = some d → d ∉ ri.op.names))
  chk : ∀ (p : Nat) (r : DRec), recs[p]? = some r → r.want = true → r.op.op.kind = .read → ∀ (q : Nat) (x : DRec), recs[q]? = some x → x.isW = true →
    (q < p → r.bf.testBit q = true ∨ r.reads x.h = true) ∧ (p < q → x.bf.testBit p = true ∨ r.reads x.h' = true)

/-- With each, those before it. -/
def Clo (recs : List DRec) (S : Nat → Bool) : Prop := ∀ (q : Nat) (x : DRec), recs[q]? = some x → S q = true → ∀ j, x.bf.testBit j = true → S j = true

theorem DRec.isW_kind {r : DRec} (h : r.isW = true) : r.op.op.kind = .write := by
  unfold DRec.isW at h
  rw [Bool.and_eq_true] at h
  simpa using h.2

section
variable {call : ACall} {base : Nat} {h₀ : AS} {tm₀ : Tm} {recs : List DRec} {S S' : Nat → Bool} {i : Nat} {r : DRec}

/-- One that may come next. -/
structure Next1 (recs : List DRec) (S : Nat → Bool) (i : Nat) (r : DRec) : Prop where
  at_ : recs[i]? = some r
  new : S i = false
  pre : ∀ j, r.bf.testBit j = true → S j = true

/-- One more. -/
structure Add (S S' : Nat → Bool) (i : Nat) : Prop where
  at_ : S' i = true
  ne : ∀ q, q ≠ i → S' q = S q

theorem Next1.later (hN : Next1 recs S i r) (hC : Clo recs S) {q : Nat} {x : DRec} (hq : recs[q]? = some x) (hb : x.bf.testBit i = true) : S q = false := by
  cases h : S q with
  | false => rfl
  | true => have := hC q x hq h i hb; rw [hN.new] at this; cases this

theorem dst_names {o : AOper} {x : Nat} (h : o.dst = some x) : x ∈ o.names := by simp [AOper.names, h]

theorem slot_sel (hD : DCtx call base h₀ tm₀ recs) (hC : Clo recs S) (hN : Next1 recs S i r) {x : Nat} (hx : x ∈ r.op.names) {q : Nat} {y : DRec} (hq : recs[q]? = some y) (hd : y.op.dst = some x) : S q = bel i q := by
  rcases Nat.lt_trichotomy q i with h | h | h
  · rcases hD.ord q i y r h hq hN.at_ with h1 | ⟨_, h1, _⟩
    · rw [hN.pre q h1]; simp [bel, h]
    · exact absurd hx (h1 x hd)
  · subst h; rw [hN.new]; simp [bel]
  · have hb : bel i q = false := by simp [bel]; omega
    rw [hb]
    rcases hD.ord i q r y h hN.at_ hq with h1 | ⟨_, _, h1⟩
    · exact hN.later hC hq h1
    · exact absurd hx (h1 x hd)

theorem slot_at (hD : DCtx call base h₀ tm₀ recs) (hC : Clo recs S) (hN : Next1 recs S i r) {x : Nat} (hx : x ∈ r.op.names) : slotAt recs tm₀ S x = r.tm.at x := by
  rw [(hD.recd i r hN.at_).tm]
  refine lastBy_congr _ _ _ fun q y hq => ?_
  rw [Nat.zero_add]
  by_cases hd : y.op.dst = some x
  · rw [slot_sel hD hC hN hx hq hd]
  · have : (y.op.dst == some x) = false := by simpa using hd
    rw [this, Bool.and_false, Bool.and_false]

theorem slot_put (hD : DCtx call base h₀ tm₀ recs) (hC : Clo recs S) (hN : Next1 recs S i r) (hA : Add S S' i) (x : Nat) : slotAt recs tm₀ S' x = if r.op.dst = some x then r.v else slotAt recs tm₀ S x := by
  by_cases hd : r.op.dst = some x
  · rw [if_pos hd]
    refine lastBy_at recs 0 _ i r hN.at_ ?_ fun q y hiq hq => ?_
    · rw [Nat.zero_add, hA.at_, hd]; simp
    · rw [Nat.zero_add, hA.ne q (by omega)]
      by_cases hy : y.op.dst = some x
      · rw [slot_sel hD hC hN (dst_names hd) hq hy]
        have hb : bel i q = false := by simp [bel]; omega
        rw [hb]; rfl
      · have : (y.op.dst == some x) = false := by simpa using hy
        rw [this, Bool.and_false]
  · rw [if_neg hd]
    refine lastBy_congr _ _ _ fun q y hq => ?_
    rw [Nat.zero_add]
    by_cases hqi : q = i
    · subst hqi
      rw [hN.at_] at hq
      cases hq
      have : (r.op.dst == some x) = false := by simpa using hd
      rw [this, Bool.and_false, Bool.and_false]
    · rw [hA.ne q hqi]

theorem chain_sel (hD : DCtx call base h₀ tm₀ recs) (hC : Clo recs S) (hN : Next1 recs S i r) (hw : r.op.op.kind = .write) {q : Nat} {y : DRec} (hq : recs[q]? = some y) (hy : y.isW = true) : S q = bel i q := by
  have hk := DRec.isW_kind hy
  rcases Nat.lt_trichotomy q i with h | h | h
  · rcases hD.ord q i y r h hq hN.at_ with h1 | ⟨h1, _⟩
    · rw [hN.pre q h1]; simp [bel, h]
    · exact absurd ⟨hk, hw⟩ h1
  · subst h; rw [hN.new]; simp [bel]
  · have hb : bel i q = false := by simp [bel]; omega
    rw [hb]
    rcases hD.ord i q r y h hN.at_ hq with h1 | ⟨h1, _⟩
    · exact hN.later hC hq h1
    · exact absurd ⟨hw, hk⟩ h1

theorem chain_congr {T : Nat → Bool} (h : ∀ (q : Nat) (y : DRec), recs[q]? = some y → y.isW = true → S q = T q) : chainAt recs h₀ S = chainAt recs h₀ T := by
  refine lastBy_congr _ _ _ fun q y hq => ?_
  rw [Nat.zero_add]
  cases hw : y.isW with
  | false => rw [Bool.and_false, Bool.and_false]
  | true => rw [h q y hq hw]

theorem chain_w (hD : DCtx call base h₀ tm₀ recs) (hC : Clo recs S) (hN : Next1 recs S i r) (hw : r.op.op.kind = .write) : chainAt recs h₀ S = r.h := by
  rw [(hD.recd i r hN.at_).h]
  exact chain_congr fun q y hq hy => chain_sel hD hC hN hw hq hy

theorem chain_put (hD : DCtx call base h₀ tm₀ recs) (hC : Clo recs S) (hN : Next1 recs S i r) (hA : Add S S' i) (hw : r.isW = true) : chainAt recs h₀ S' = r.h' := by
  refine lastBy_at recs 0 _ i r hN.at_ ?_ fun q y hiq hq => ?_
  · rw [Nat.zero_add, hA.at_, hw]; rfl
  · rw [Nat.zero_add, hA.ne q (by omega)]
    cases hy : y.isW with
    | false => rw [Bool.and_false]
    | true =>
      rw [chain_sel hD hC hN (DRec.isW_kind hw) hq hy]
      have hb : bel i q = false := by simp [bel]; omega
      rw [hb]; rfl

theorem chain_same (hN : Next1 recs S i r) (hA : Add S S' i) (hw : r.isW = false) : chainAt recs h₀ S' = chainAt recs h₀ S :=
  chain_congr fun q y hq hy => by
    refine hA.ne q fun he => ?_
    subst he
    rw [hN.at_] at hq
    cases hq
    rw [hw] at hy; cases hy

theorem pend_w (hN : Next1 recs S i r) (hA : Add S S' i) (hw : r.isW = true) (hal : r.al = none) {p : Nat} {blk : ABlk} : Pend recs S' p blk ↔ Pend recs S p blk ∧ r.bf.testBit p = false := by
  unfold Pend
  constructor
  · rintro ⟨x, h1, h2, h3, h4⟩
    have hpi : p ≠ i := by
      rintro rfl
      rw [hN.at_] at h1
      cases h1
      rw [hal] at h2; cases h2
    refine ⟨⟨x, h1, h2, by rw [← hA.ne p hpi]; exact h3, fun q y hq hS hy => ?_⟩, h4 i r hN.at_ hA.at_ hw⟩
    refine h4 q y hq ?_ hy
    by_cases he : q = i
    · subst he; exact hA.at_
    · rw [hA.ne q he]; exact hS
  · rintro ⟨⟨x, h1, h2, h3, h4⟩, h5⟩
    have hpi : p ≠ i := by rintro rfl; rw [hN.new] at h3; cases h3
    refine ⟨x, h1, h2, by rw [hA.ne p hpi]; exact h3, fun q y hq hS hy => ?_⟩
    by_cases he : q = i
    · subst he
      rw [hN.at_] at hq
      cases hq
      exact h5
    · exact h4 q y hq (by rw [← hA.ne q he]; exact hS) hy

theorem pend_o (hC : Clo recs S) (hN : Next1 recs S i r) (hA : Add S S' i) (hw : r.isW = false) {p : Nat} {blk : ABlk} : Pend recs S' p blk ↔ Pend recs S p blk ∨ (p = i ∧ r.al = some blk) := by
  unfold Pend
  constructor
  · rintro ⟨x, h1, h2, h3, h4⟩
    by_cases hpi : p = i
    · subst hpi
      rw [hN.at_] at h1
      cases h1
      exact .inr ⟨rfl, h2⟩
    · refine .inl ⟨x, h1, h2, by rw [← hA.ne p hpi]; exact h3, fun q y hq hS hy => h4 q y hq ?_ hy⟩
      by_cases he : q = i
      · subst he; exact hA.at_
      · rw [hA.ne q he]; exact hS
  · have other : ∀ (q : Nat) (y : DRec), recs[q]? = some y → S' q = true → y.isW = true → S q = true := by
      intro q y hq hS hy
      by_cases he : q = i
      · subst he
        rw [hN.at_] at hq
        cases hq
        rw [hw] at hy; cases hy
      · rw [← hA.ne q he]; exact hS
    rintro (⟨x, h1, h2, h3, h4⟩ | ⟨rfl, h2⟩)
    · have hpi : p ≠ i := by rintro rfl; rw [hN.new] at h3; cases h3
      exact ⟨x, h1, h2, by rw [hA.ne p hpi]; exact h3, fun q y hq hS hy => h4 q y hq (other q y hq hS hy) hy⟩
    · refine ⟨r, hN.at_, h2, hA.at_, fun q y hq hS hy => ?_⟩
      cases hb : y.bf.testBit p with
      | false => rfl
      | true =>
        have h1 := other q y hq hS hy
        rw [hN.later hC hq hb] at h1; cases h1

theorem exists_least {p : Nat → Prop} : ∀ n, p n → ∃ m, p m ∧ ∀ k, k < m → ¬ p k := by
  intro n
  induction n using Nat.strongRecOn with
  | _ n ih =>
    intro hn
    by_cases h : ∃ k, k < n ∧ p k
    · obtain ⟨k, h1, h2⟩ := h
      exact ih k h1 h2
    · exact ⟨n, hn, fun k hk hp => h ⟨k, hk, hp⟩⟩

/-- A read sees what it saw in the order of the text. -/
theorem chain_read (hD : DCtx call base h₀ tm₀ recs) (hC : Clo recs S) (hN : Next1 recs S i r) (hw : r.want = true) (hk : r.op.op.kind = .read) :
    aop r.tm (chainAt recs h₀ S) r.op.op = some (r.v, chainAt recs h₀ S) := by
  have hrec := hD.recd i r hN.at_
  have home : aop r.tm r.h r.op.op = some (r.v, r.h) := by
    rcases hrec.kind with ⟨h, _⟩ | ⟨_, h, _⟩ | ⟨_, h, _⟩ | ⟨_, _, _, s', h⟩
    · rw [hw] at h; cases h
    · rw [hk] at h; cases h
    · rw [hk] at h; cases h
    · have := aop_keeps (by rw [hk]; simp) h
      rwa [this] at h
  have nw : r.isW = false := by simp [DRec.isW, hk]
  by_cases hB : ∃ q, q < i ∧ S q = false ∧ ∃ y, recs[q]? = some y ∧ y.isW = true
  · obtain ⟨q0, hq0⟩ := hB
    obtain ⟨q, ⟨hqi, hSq, y, hy, hyW⟩, hleast⟩ := exists_least (p := fun q => q < i ∧ S q = false ∧ ∃ y, recs[q]? = some y ∧ y.isW = true) q0 hq0
    have hch : chainAt recs h₀ S = y.h := by
      rw [(hD.recd q y hy).h]
      refine chain_congr fun q' y' hq' hy' => ?_
      rcases Nat.lt_trichotomy q' q with h | h | h
      · have hb : bel q q' = true := by simp [bel, h]
        rw [hb]
        cases hS : S q' with
        | true => rfl
        | false => exact absurd ⟨by omega, hS, y', hq', hy'⟩ (hleast q' h)
      · subst h; rw [hSq]; simp [bel]
      · have hb : bel q q' = false := by simp [bel]; omega
        rw [hb]
        cases hS : S q' with
        | false => rfl
        | true =>
          rcases hD.ord q q' y y' h hy hq' with h1 | ⟨h1, _⟩
          · have := hC q' y' hq' hS q h1; rw [hSq] at this; cases this
          · exact absurd ⟨DRec.isW_kind hyW, DRec.isW_kind hy'⟩ h1
    rw [hch]
    rcases (hD.chk i r hN.at_ hw hk q y hy hyW).1 hqi with h1 | h1
    · have := hN.pre q h1; rw [hSq] at this; cases this
    · exact reads_spec hk h1
  · have hA : ∀ q, q < i → ∀ y, recs[q]? = some y → y.isW = true → S q = true := by
      intro q hq y hy hyW
      cases hS : S q with
      | true => rfl
      | false => exact absurd ⟨q, hq, hS, y, hy, hyW⟩ hB
    have toHome : (∀ q y, recs[q]? = some y → y.isW = true → i < q → S q = false) → chainAt recs h₀ S = r.h := by
      intro hlate
      rw [hrec.h]
      refine chain_congr fun q y hq hy => ?_
      rcases Nat.lt_trichotomy q i with h | h | h
      · rw [hA q h y hq hy]; simp [bel, h]
      · subst h; rw [hN.new]; simp [bel]
      · rw [hlate q y hq hy h]
        have hb : bel i q = false := by simp [bel]; omega
        rw [hb]
    rcases lastBy_cases (sel := fun p r => S p && r.isW) (val := fun r => r.h') recs 0 h₀ with h | ⟨q, y, h1, h2, h3, h4⟩
    · rw [toHome fun q y hq hy _ => by
        have := h q y hq
        rw [Nat.zero_add, hy, Bool.and_true] at this
        exact this]
      exact home
    · rw [Nat.zero_add, Bool.and_eq_true] at h2
      rcases Nat.lt_trichotomy q i with h | h | h
      · rw [toHome fun q' y' hq' hy' hlt => by
          have := h3 q' y' (by omega) hq'
          rw [Nat.zero_add, hy', Bool.and_true] at this
          exact this]
        exact home
      · subst h
        rw [hN.at_] at h1
        cases h1
        rw [nw] at h2
        cases h2.2
      · have hch : chainAt recs h₀ S = y.h' := h4
        rw [hch]
        rcases (hD.chk i r hN.at_ hw hk q y h1 h2.2).2 h with k1 | k1
        · have := hC q y h1 h2.1 i k1
          rw [hN.new] at this; cases this
        · exact reads_spec hk k1

end
end Go.Ai

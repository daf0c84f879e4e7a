/- Summaries: a map's keys, sorted. -/
import Derived.Test.YtcjfijmbdoiaiaaGreatDoorRbAi32
import Derived.Lib.SlKeysI
import Derived.Sort.KeysCollected
import Derived.Maps.Own
import Derived.WalkArith
import Derived.WideShapes
set_option linter.unusedSimpArgs false
set_option linter.unusedVariables false
namespace Go.Ai
open Go.RowKit Go.Maps

section
variable {P : Program} {μ : Mu} {s : AS} {w w' : World}

/-- One new block, in a world that has more. -/
theorem Stp.newBelow (hR : Rel μ s w) (h : Below w.heap.size w w') (i : BI) (hi : w.heap.size ≤ i.blk) (hlt : i.blk < w'.heap.size) {o : ABlk} (hb : BR (μ.upd s.nx i) i w' o) : Stp μ s w (μ.upd s.nx i) (s.new o) w' where
  ext := Mu.le_upd i hR.none_nx
  rel := {
    blk := fun b o' hg => by
      rw [AS.get_new] at hg
      by_cases he : b = s.nx
      · subst he
        simp only [if_true, Option.some.injEq] at hg
        subst hg
        exact ⟨i, Mu.upd_same _ _ _, hb⟩
      · simp only [he, if_false] at hg
        obtain ⟨j, h1, h2⟩ := hR.blk b o' hg
        exact ⟨j, by simp [Mu.upd, he, h1], (h2.mono (Mu.le_upd i hR.none_nx)).of_heap (h.block _ (hR.inb hg h1))⟩
    sep := fun b b' o₁ o₂ i₁ i₂ h1 h2 h3 h4 h5 h6 => by
      rw [AS.get_new] at h1 h2
      unfold Mu.upd at h3 h4
      by_cases e1 : b = s.nx <;> by_cases e2 : b' = s.nx
      · rw [e1, e2]
      · simp only [e1, e2, if_true, if_false] at h2 h3 h4
        cases h3
        have := hR.inb h2 h4
        omega
      · simp only [e1, e2, if_true, if_false] at h1 h3 h4
        cases h4
        have := hR.inb h1 h3
        omega
      · simp only [e1, e2, if_false] at h1 h2 h3 h4
        exact hR.sep b b' o₁ o₂ i₁ i₂ h1 h2 h3 h4 h5 h6
    fresh := fun b j hj => by
      unfold Mu.upd at hj
      show b < s.nx + 1
      split at hj
      · omega
      · have := hR.fresh b j hj; omega }
  keep := fun c hc _ => h.block c hc
  ws := fun c hc => by
    obtain ⟨b, o', j, h1, h2, h3, h4⟩ := hc
    rw [AS.get_new] at h1
    unfold Mu.upd at h2
    by_cases he : b = s.nx
    · simp only [he, if_true] at h2
      cases h2
      exact .inr (by omega)
    · simp only [he, if_false] at h1 h2
      exact .inl ⟨b, o', j, h1, h2, h3, h4⟩
  us := fun c hc => by
    obtain ⟨b, o', j, h1, h2, h4⟩ := hc
    rw [AS.get_new] at h1
    unfold Mu.upd at h2
    by_cases he : b = s.nx
    · simp only [he, if_true] at h2
      cases h2
      exact .inr (by omega)
    · simp only [he, if_false] at h1 h2
      exact .inl ⟨b, o', j, h1, h2, h4⟩
  mnew := fun b hb hn => by
    unfold Mu.upd
    rw [if_neg (by omega)]; exact hb
  dom := fun b hb => by
    rw [AS.get_new] at hb
    by_cases he : b = s.nx
    · exact .inr (by omega)
    · simp only [he, if_false] at hb
      exact .inl hb
  nx := Nat.le_succ _
  size := h.size
  os := h.os
  out := h.output
  tape := h.tape

/-! ## Keys that are ints -/

def insI (x : Int) : List Int → List Int
  | [] => [x]
  | y :: l => if x ≤ y then x :: y :: l else y :: insI x l
def isortI : List Int → List Int
  | [] => []
  | x :: l => insI x (isortI l)

theorem insI_perm (x : Int) : ∀ l, (insI x l).Perm (x :: l)
  | [] => .refl _
  | y :: l => by
    unfold insI
    split
    · exact .refl _
    · exact ((insI_perm x l).cons y).trans (.swap x y l)
theorem isortI_perm : ∀ l, (isortI l).Perm l
  | [] => .refl _
  | x :: l => (insI_perm x _).trans ((isortI_perm l).cons x)
theorem insI_sorted (x : Int) : ∀ l, l.Pairwise (fun a b => leI a b = true) → (insI x l).Pairwise (fun a b => leI a b = true)
  | [], _ => by simp [insI]
  | y :: l, h => by
    unfold insI
    split
    · rename_i hxy
      rw [List.pairwise_cons]
      refine ⟨fun z hz => ?_, h⟩
      rcases List.mem_cons.1 hz with rfl | hz
      · simpa [leI] using hxy
      · have := (List.pairwise_cons.1 h).1 z hz
        simp only [leI, decide_eq_true_eq] at this ⊢
        omega
    · rename_i hxy
      obtain ⟨h1, h2⟩ := List.pairwise_cons.1 h
      rw [List.pairwise_cons]
      refine ⟨fun z hz => ?_, insI_sorted x l h2⟩
      have hz' := (insI_perm x l).mem_iff.1 hz
      rcases List.mem_cons.1 hz' with rfl | hz'
      · simp only [leI, decide_eq_true_eq]; omega
      · exact h1 z hz'
theorem isortI_sorted : ∀ l, (isortI l).Pairwise (fun a b => leI a b = true)
  | [] => .nil
  | x :: l => insI_sorted x _ (isortI_sorted l)
theorem mergeSort_isortI (l m : List Int) (h : l.Perm m) : l.mergeSort leI = isortI m := by
  have tr : ∀ a b c : Int, leI a b = true → leI b c = true → leI a c = true := fun a b c h1 h2 => by simp only [leI, decide_eq_true_eq] at *; exact Int.le_trans h1 h2
  have to : ∀ a b : Int, (leI a b || leI b a) = true := fun a b => by simp only [leI, Bool.or_eq_true, decide_eq_true_eq]; exact Int.le_total a b
  refine List.Perm.eq_of_pairwise (le := fun a b => leI a b = true) (fun a b _ _ h1 h2 => ?_) (List.pairwise_mergeSort tr to l) (isortI_sorted m) (((List.mergeSort_perm l leI).trans h).trans (isortI_perm m).symm)
  simp only [leI, decide_eq_true_eq] at h1 h2
  omega

def keysI : List (AV × AV) → Option (List Int)
  | [] => some []
  | (.int .i64 n, _) :: l => if -9223372036854775808 ≤ n ∧ n ≤ 9223372036854775807 then (keysI l).map (n :: ·) else none
  | _ :: _ => none

def nodupI : List Int → Bool
  | [] => true
  | x :: l => !l.contains x && nodupI l

theorem nodupI_iff : ∀ l : List Int, nodupI l = true → l.Nodup
  | [], _ => .nil
  | x :: l, h => by
    simp only [nodupI, Bool.and_eq_true, Bool.not_eq_true'] at h
    rw [List.nodup_cons]
    refine ⟨fun hm => ?_, nodupI_iff l h.2⟩
    have : l.contains x = true := by simpa using hm
    rw [this] at h
    cases h.1

def sumSortedI (it : FuncId) : ASum
  | [.func (.func f) [] [.ptr (some (b, 0))]], s =>
    if f = it then
      match s.get b with
      | some (.cells [.map (some m)] _ true _ _) =>
        match s.get m with
        | some (.map es) =>
          match keysI es with
          | some ks => if nodupI ks && decide (ks.length < 1099511627776) then (match ks with
              | [] => some (.slice none 0 0, s)
              | _ :: _ => some (.slice (some (s.nx, 0)) ks.length ks.length, s.new (.cells ((isortI ks).map (.int .i64)) 1 false false none))) else none
          | none => none
        | _ => none
      | _ => none
    else none
  | _, _ => none

def anyR (v : Value) : Option (DataW Unit × List MemPlace) := some (.nil, [])

theorem keysI_get : ∀ (es : List (AV × AV)) (ees : List MapEntry) (ks : List Int), MRs μ es ees → keysI es = some ks → ees.map (·.key) = ks.map (Value.int .i64) ∧ ∀ k ∈ ks, -9223372036854775808 ≤ k ∧ k ≤ 9223372036854775807
  | [], _, ks, h, hk => by
    cases h
    simp only [keysI, Option.some.injEq] at hk
    subst hk
    exact ⟨rfl, fun k hk => by cases hk⟩
  | (.int .i64 n, v) :: l, _, ks, h, hk => by
    cases h with
    | cons _ _ e _ l' h1 h2 h3 =>
      simp only [keysI] at hk
      split at hk
      · rename_i hc
        rw [Option.map_eq_some_iff] at hk
        obtain ⟨r, hr, rfl⟩ := hk
        obtain ⟨k1, k2⟩ := keysI_get l l' r h3 hr
        refine ⟨by simp only [List.map_cons, k1, h1.int_inv], fun k hk => ?_⟩
        rcases List.mem_cons.1 hk with rfl | hk
        · exact hc
        · exact k2 k hk
      · cases hk
  | (.bool _, _) :: _, _, _, _, hk | (.str _, _) :: _, _, _, _, hk | (.ptr _, _) :: _, _, _, _, hk | (.slice .., _) :: _, _, _, _, hk | (.map _, _) :: _, _, _, _, hk | (.func .., _) :: _, _, _, _, hk | (.nilFunc, _) :: _, _, _, _, hk
  | (.iface .., _) :: _, _, _, _, hk | (.nilIface, _) :: _, _, _, _, hk | (.agg _, _) :: _, _, _, _, hk | (.tuple _, _) :: _, _, _, _, hk => by cases hk
  | (.int .i8 _, _) :: _, _, _, _, hk | (.int .i16 _, _) :: _, _, _, _, hk | (.int .i32 _, _) :: _, _, _, _, hk | (.int .u8 _, _) :: _, _, _, _, hk | (.int .u16 _, _) :: _, _, _, _, hk | (.int .u32 _, _) :: _, _, _, _, hk
  | (.int .u64 _, _) :: _, _, _, _, hk => by cases hk

/-- What a run of slices.Sorted over an iterator of a map's keys is known to do. -/
def SortedI (P : Program) (K : TypeId) (fS it : FuncId) : Prop :=
  ∀ (w : World) (Bm b nn : Nat) (D0 : DataW Unit), Bm < w.heap.size → w.cell? ⟨Bm, 0, none⟩ = some (.map (some b)) → w.ownsMap P K anyR b nn D0 → Maps.size D0 ≤ maxLen → Maps.size D0 * 8 ≤ 140737488355328 →
    Calls P fS #[.func (.func it) #[] #[.pointer (some ⟨Bm, 0, none⟩)]] w fun e w' => ∃ (v : Value) (ss : List Int), e = .returned v ∧ ss.Perm (intKeys D0) ∧ w'.ownsRow w.heap.size K 1 v ss.length ((ss.mergeSort leI).map encZ) ∧ (v = .slice none 0 0 ↔ ss = []) ∧ Below w.heap.size w w'

theorem anyR_rg {K : TypeId} (hK : P.underlying K = some (.int .i64)) {e : MapEntry} {n : Int} (he : e.key = .int .i64 n) (hn : -9223372036854775808 ≤ n ∧ n ≤ 9223372036854775807) : WideElems.rd P K anyR e = some (.int .i64 n, .nil) := by
  have hw : (Lit.int .i64 n).wf = true := WalkArith.wf_i64 hn
  simp [WideElems.rd, he, Maps.keyOf_int_mk hK hw, anyR]

theorem sortedI_ok {K : TypeId} {fS it : FuncId} (hb : goBody P fS = true) (hK : P.underlying K = some (.int .i64)) (hS : SortedI P K fS it) : SumOK P fS (sumSortedI it) := by
  intro args s r s' hs
  refine ⟨hb, fun μ w args' hg hv hR => ?_⟩
  unfold sumSortedI at hs
  split at hs
  · rename_i f b
    split at hs
    · rename_i hf
      subst hf
      split at hs
      · rename_i m _ _ _ hgb
        split at hs
        · rename_i es hm
          split at hs
          · rename_i ks hks
            split at hs
            · rename_i hc
              simp only [Bool.and_eq_true, decide_eq_true_eq] at hc
              obtain ⟨hnd, hlen⟩ := hc
              have hnd := nodupI_iff _ hnd
              -- the model's side
              obtain ⟨fc, cc, rfl, hfc, hcc⟩ : ∃ fc cc : Array Value, args' = #[.func (.func f) fc cc] ∧ VRs μ [] fc.toList ∧ VRs μ [.ptr (some (b, 0))] cc.toList := by
                obtain ⟨l⟩ := args'
                cases hv with
                | cons _ _ _ _ h1 h2 =>
                  cases h2
                  cases h1 with
                  | func _ _ _ fc cc h3 h4 => exact ⟨fc, cc, rfl, h3, h4⟩
              have hfc0 : fc = #[] := by
                obtain ⟨l⟩ := fc
                cases hfc; rfl
              subst hfc0
              obtain ⟨pv, rfl, hpv⟩ : ∃ pv, cc = #[pv] ∧ VR μ (.ptr (some (b, 0))) pv := by
                obtain ⟨l⟩ := cc
                cases hcc with
                | cons _ _ _ _ h1 h2 => cases h2; exact ⟨_, rfl, h1⟩
              obtain ⟨bi, rfl, hbi⟩ := hpv.ptr_inv
              obtain ⟨bi', hbi', q1, q2, q3, q4, cc, el, fr, q5, q6, q7, q8, q9, q10, q11⟩ := hR.blk b _ hgb
              rw [hbi] at hbi'
              cases hbi'
              obtain ⟨hdel, hcsz⟩ := q11 rfl
              obtain ⟨mv, hmv1, hmv2⟩ := q8.get (n := 0) (v := .map (some m)) rfl
              obtain ⟨mi, rfl, hmi⟩ := hmv2.map_inv
              have hc0 : w.cell? ⟨bi.blk, 0, none⟩ = some (.map (some mi.blk)) := by
                rw [hdel, List.drop_zero, List.getElem?_take] at hmv1
                split at hmv1
                · simp only [World.cell?, q5]
                  rw [← Array.getElem?_toList]
                  exact hmv1
                · cases hmv1
              have hargs : (⟨bi.blk, bi.del + 0, none⟩ : Addr) = ⟨bi.blk, 0, none⟩ := by rw [hdel]
              rw [hargs]
              obtain ⟨hro, ees, clock, hh, hms, hst⟩ := hR.map hm hmi
              obtain ⟨hkeys, hrange⟩ := keysI_get es ees.toList ks hms hks
              have hlen2 : ees.toList.length = ks.length := by
                have := congrArg List.length hkeys
                simpa using this
              have hrd : ∀ x ∈ ees.toList, ∃ n, x.key = .int .i64 n ∧ WideElems.rd P K anyR x = some (.int .i64 n, .nil) := fun x hx => by
                have : x.key ∈ ees.toList.map (·.key) := List.mem_map_of_mem hx
                rw [hkeys] at this
                obtain ⟨n, hn, hx⟩ := List.mem_map.1 this
                exact ⟨n, hx.symm, anyR_rg hK hx.symm (hrange n hn)⟩
              have hfit : WideElems.Fit P K anyR ees clock := {
                size := by rw [← Array.length_toList, hlen2]; unfold maxLen; omega
                stamped := (MapKept.stamped_iff ees clock).2 ⟨hst.2, hst.1, by
                  have : (ees.toList.map (·.key)).Nodup := by
                    rw [hkeys]
                    exact List.Pairwise.map _ (fun a b h he => h (by cases he; rfl)) hnd
                  exact (List.pairwise_map.1 this)⟩
                reads := fun x hx => by obtain ⟨n, _, h⟩ := hrd x hx; exact ⟨_, h⟩ }
              let D0 : DataW Unit := .map ((ees.toList.map (WideElems.rg P K anyR)).foldr DataW.insert [])
              have hown : w.ownsMap P K anyR mi.blk ees.size D0 := ⟨ees, clock, hh, hfit, Nat.le_refl _, rfl⟩
              have hsize : Maps.size D0 = ks.length := by
                show ((ees.toList.map (WideElems.rg P K anyR)).foldr DataW.insert []).length = _
                rw [length_sorted, List.length_map, hlen2]
              have hik : (intKeys D0).Perm ks := by
                have h1 := (WideShapes.sorted_perm (ees.toList.map (WideElems.rg P K anyR))).map fun p => intOf p.1
                refine h1.trans (List.Perm.of_eq ?_)
                have h2 : ∀ (l : List MapEntry) (m : List Int), l.map (·.key) = m.map (Value.int .i64) → (∀ k ∈ m, -9223372036854775808 ≤ k ∧ k ≤ 9223372036854775807) → (l.map (WideElems.rg P K anyR)).map (fun p => intOf p.1) = m := by
                  intro l
                  induction l with
                  | nil => intro m h _; cases m with
                    | nil => rfl
                    | cons => simp at h
                  | cons x l ih =>
                    intro m h hr
                    cases m with
                    | nil => simp at h
                    | cons k m =>
                      simp only [List.map_cons, List.cons.injEq] at h
                      have := anyR_rg hK h.1 (hr k (by simp))
                      simp only [List.map_cons, WideElems.rg, this, Option.getD_some]
                      exact congrArg (k :: ·) (ih m h.2 fun q hq => hr q (by simp [hq]))
                exact h2 _ _ hkeys hrange
              have hlt := hR.inb hgb hbi
              refine (hS w bi.blk mi.blk ees.size D0 hlt ?_ hown (by rw [hsize]; unfold maxLen; omega) (by rw [hsize]; omega)).mono ?_
              · exact hc0
              · rintro e w' ⟨v, ss, rfl, hperm, hrow, hnil, hbelow⟩
                have hpk := hperm.trans hik
                have hsl : ss.length = ks.length := hpk.length_eq
                rw [mergeSort_isortI ss ks hpk] at hrow
                cases ks with
                | nil =>
                  simp only [Option.some.injEq, Prod.mk.injEq] at hs
                  obtain ⟨rfl, rfl⟩ := hs
                  have hv0 := hnil.2 (List.eq_nil_of_length_eq_zero hsl)
                  subst hv0
                  exact ⟨μ, _, rfl, .nilslice, Stp.below hR hbelow⟩
                | cons k0 kr =>
                  simp only [Option.some.injEq, Prod.mk.injEq] at hs
                  obtain ⟨rfl, rfl⟩ := hs
                  rcases hrow.2 with ⟨rfl, hz⟩ | ⟨g, cap, cur, rfl, hbase, hg', r1, r2, r3, r4⟩
                  · rw [hsl] at hz; simp at hz
                  · let i : BI := ⟨g, 0, (k0 :: kr).length, cur.size, 1, false, false⟩
                    have hgl : g < w'.heap.size := (Array.getElem?_eq_some_iff.1 hg').1
                    have hlk : (isortI (k0 :: kr)).length = (k0 :: kr).length := (isortI_perm _).length_eq
                    refine ⟨μ.upd s.nx i, _, rfl, ?_, Stp.newBelow hR hbelow i hbase hgl ?_⟩
                    · have := VR.slice (μ := μ.upd s.nx i) s.nx 0 ss.length (k0 :: kr).length cap i (Mu.upd_same _ _ _) (by omega) (.inr ⟨rfl, by show 0 + (k0 :: kr).length * 1 = (k0 :: kr).length; omega, by omega, by show 0 + 0 + cap * 1 ≤ cur.size; omega⟩)
                      rw [hsl] at this
                      rw [hsl]
                      exact this
                    · refine ⟨?_, rfl, rfl, rfl, cur, K, (0, 0), hg', rfl, ?_, ?_, (fun _ j _ => by simp), (fun t ht => by cases ht), (fun h => by cases h)⟩
                      · show (k0 :: kr).length = ((isortI (k0 :: kr)).map (AV.int .i64)).length
                        rw [List.length_map, hlk]
                      · show 0 + ((isortI (k0 :: kr)).map (AV.int .i64)).length ≤ cur.size
                        rw [List.length_map, hlk]; omega
                      · show VRs _ _ ((cur.toList.drop 0).take ((isortI (k0 :: kr)).map (AV.int .i64)).length)
                        rw [List.drop_zero, List.length_map, hlk]
                        rw [hsl, Nat.mul_one] at r4
                        rw [r4]
                        exact VRs.of_map _ _ _ fun x _ => .int .i64 x
            · cases hs
          · cases hs
        · cases hs
      · cases hs
    · cases hs
  · cases hs

end
end Go.Ai

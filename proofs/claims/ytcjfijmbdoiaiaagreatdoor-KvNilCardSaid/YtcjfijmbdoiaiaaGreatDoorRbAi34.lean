/- Summaries: a map's keys, sorted: strings. -/
import Derived.Test.YtcjfijmbdoiaiaaGreatDoorRbAi33
import Derived.StringKeys
import Derived.Sort.EncStr
set_option linter.unusedSimpArgs false
set_option linter.unusedVariables false
namespace Go.Ai
open Go.RowKit Go.Maps Go.Proofs

section
variable {P : Program} {μ : Mu} {s : AS} {w w' : World}

/-! ## Keys that are strings -/

def insS (x : List UInt8) : List (List UInt8) → List (List UInt8)
  | [] => [x]
  | y :: l => if leB x y = true then x :: y :: l else y :: insS x l
def isortS : List (List UInt8) → List (List UInt8)
  | [] => []
  | x :: l => insS x (isortS l)

theorem leB_trans : ∀ a b c : List UInt8, leB a b = true → leB b c = true → leB a c = true := fun a b c h1 h2 => by simp only [leB, decide_eq_true_eq] at *; exact List.le_trans h1 h2
theorem leB_total : ∀ a b : List UInt8, (leB a b || leB b a) = true := fun a b => by simp only [leB, Bool.or_eq_true, decide_eq_true_eq]; exact List.le_total a b

theorem insS_perm (x : List UInt8) : ∀ l, (insS x l).Perm (x :: l)
  | [] => .refl _
  | y :: l => by
    unfold insS
    split
    · exact .refl _
    · exact ((insS_perm x l).cons y).trans (.swap x y l)
theorem isortS_perm : ∀ l, (isortS l).Perm l
  | [] => .refl _
  | x :: l => (insS_perm x _).trans ((isortS_perm l).cons x)
theorem insS_sorted (x : List UInt8) : ∀ l, l.Pairwise (fun a b => leB a b = true) → (insS x l).Pairwise (fun a b => leB a b = true)
  | [], _ => by simp [insS]
  | y :: l, h => by
    unfold insS
    split
    · rename_i hxy
      rw [List.pairwise_cons]
      refine ⟨fun z hz => ?_, h⟩
      rcases List.mem_cons.1 hz with rfl | hz
      · exact hxy
      · exact leB_trans _ _ _ hxy ((List.pairwise_cons.1 h).1 z hz)
    · rename_i hxy
      obtain ⟨h1, h2⟩ := List.pairwise_cons.1 h
      rw [List.pairwise_cons]
      refine ⟨fun z hz => ?_, insS_sorted x l h2⟩
      have hz' := (insS_perm x l).mem_iff.1 hz
      rcases List.mem_cons.1 hz' with rfl | hz'
      · have := leB_total z y
        simp only [Bool.or_eq_true] at this
        rcases this with h | h
        · exact absurd h hxy
        · exact h
      · exact h1 z hz'
theorem isortS_sorted : ∀ l, (isortS l).Pairwise (fun a b => leB a b = true)
  | [] => .nil
  | x :: l => insS_sorted x _ (isortS_sorted l)
theorem mergeSort_isortS (l m : List (List UInt8)) (h : l.Perm m) : l.mergeSort leB = isortS m := by
  refine List.Perm.eq_of_pairwise (le := fun a b => leB a b = true) (fun a b _ _ h1 h2 => ?_) (List.pairwise_mergeSort leB_trans leB_total l) (isortS_sorted m) (((List.mergeSort_perm l leB).trans h).trans (isortS_perm m).symm)
  simp only [leB, decide_eq_true_eq] at h1 h2
  exact List.le_antisymm h1 h2

def keysS : List (AV × AV) → Option (List (List UInt8))
  | [] => some []
  | (.str t, _) :: l => if t.length < 1099511627776 then (keysS l).map (t :: ·) else none
  | _ :: _ => none

def nodupS : List (List UInt8) → Bool
  | [] => true
  | x :: l => !l.contains x && nodupS l

theorem nodupS_iff : ∀ l : List (List UInt8), nodupS l = true → l.Nodup
  | [], _ => .nil
  | x :: l, h => by
    simp only [nodupS, Bool.and_eq_true, Bool.not_eq_true'] at h
    rw [List.nodup_cons]
    refine ⟨fun hm => ?_, nodupS_iff l h.2⟩
    have : l.contains x = true := by simpa using hm
    rw [this] at h
    cases h.1

def sumSortedS (it : FuncId) : ASum
  | [.func (.func f) [] [.ptr (some (b, 0))]], s =>
    if f = it then
      match s.get b with
      | some (.cells [.map (some m)] _ true _ _) =>
        match s.get m with
        | some (.map es) =>
          match keysS es with
          | some ks => if nodupS ks && decide (ks.length < 1099511627776) then (match ks with
              | [] => some (.slice none 0 0, s)
              | _ :: _ => some (.slice (some (s.nx, 0)) ks.length ks.length, s.new (.cells ((isortS ks).map .str) 1 false false none))) else none
          | none => none
        | _ => none
      | _ => none
    else none
  | _, _ => none

theorem keysS_get : ∀ (es : List (AV × AV)) (ees : List MapEntry) (ks : List (List UInt8)), MRs μ es ees → keysS es = some ks → ees.map (·.key) = ks.map encStr ∧ ∀ k ∈ ks, k.length < 1099511627776
  | [], _, ks, h, hk => by
    cases h
    simp only [keysS, Option.some.injEq] at hk
    subst hk
    exact ⟨rfl, fun k hk => by cases hk⟩
  | (.str t, v) :: l, _, ks, h, hk => by
    cases h with
    | cons _ _ e _ l' h1 h2 h3 =>
      simp only [keysS] at hk
      split at hk
      · rename_i hc
        rw [Option.map_eq_some_iff] at hk
        obtain ⟨r, hr, rfl⟩ := hk
        obtain ⟨k1, k2⟩ := keysS_get l l' r h3 hr
        obtain ⟨u, hu, hu2⟩ := h1.str_inv
        refine ⟨by simp only [List.map_cons, k1, hu, encStr]; rw [← hu2], fun k hk => ?_⟩
        rcases List.mem_cons.1 hk with rfl | hk
        · exact hc
        · exact k2 k hk
      · cases hk
  | (.bool _, _) :: _, _, _, _, hk | (.int _ _, _) :: _, _, _, _, hk | (.ptr _, _) :: _, _, _, _, hk | (.slice .., _) :: _, _, _, _, hk | (.map _, _) :: _, _, _, _, hk | (.func .., _) :: _, _, _, _, hk | (.nilFunc, _) :: _, _, _, _, hk
  | (.iface .., _) :: _, _, _, _, hk | (.nilIface, _) :: _, _, _, _, hk | (.agg _, _) :: _, _, _, _, hk | (.tuple _, _) :: _, _, _, _, hk => by cases hk

/-- What a run of slices.Sorted over an iterator of a map's keys is known to do. -/
def SortedS (P : Program) (K : TypeId) (fS it : FuncId) : Prop :=
  ∀ (w : World) (Bm b nn : Nat) (D0 : DataW Unit), Bm < w.heap.size → w.cell? ⟨Bm, 0, none⟩ = some (.map (some b)) → w.ownsMap P K anyR b nn D0 → Maps.size D0 ≤ maxLen → Maps.size D0 * 16 ≤ 140737488355328 →
    Calls P fS #[.func (.func it) #[] #[.pointer (some ⟨Bm, 0, none⟩)]] w fun e w' => ∃ (v : Value) (ss : List (List UInt8)), e = .returned v ∧ ss.Perm (strKeys D0) ∧ w'.ownsRow w.heap.size K 1 v ss.length ((ss.mergeSort leB).map encStr) ∧ (v = .slice none 0 0 ↔ ss = []) ∧ Below w.heap.size w w'

theorem anyR_rgS {K : TypeId} (hK : P.underlying K = some .string) {e : MapEntry} {n : List UInt8} (he : e.key = encStr n) (hn : n.length < 1099511627776) : WideElems.rd P K anyR e = some (.string n, .nil) := by
  have hw : (⟨n.toArray⟩ : ByteArray).size ≤ maxLen := by
    show n.toArray.size ≤ maxLen
    rw [List.size_toArray]; unfold maxLen; omega
  simp [WideElems.rd, he, WideMaps.keyOf_string_mk hK hw, anyR, encStr]

theorem sortedS_ok {K : TypeId} {fS it : FuncId} (hb : goBody P fS = true) (hK : P.underlying K = some .string) (hS : SortedS P K fS it) : SumOK P fS (sumSortedS it) := by
  intro args s r s' hs
  refine ⟨hb, fun μ w args' hg hv hR => ?_⟩
  unfold sumSortedS at hs
  split at hs
  · rename_i f b
    split at hs
    · rename_i hf
      subst hf
      split at hs
      · rename_i m _ _ _ hgb
        split at hs
        · rename_i es hm
          split at hs
          · rename_i ks hks
            split at hs
            · rename_i hc
              simp only [Bool.and_eq_true, decide_eq_true_eq] at hc
              obtain ⟨hnd, hlen⟩ := hc
              have hnd := nodupS_iff _ hnd
              -- the model's side
              obtain ⟨fc, cc, rfl, hfc, hcc⟩ : ∃ fc cc : Array Value, args' = #[.func (.func f) fc cc] ∧ VRs μ [] fc.toList ∧ VRs μ [.ptr (some (b, 0))] cc.toList := by
                obtain ⟨l⟩ := args'
                cases hv with
                | cons _ _ _ _ h1 h2 =>
                  cases h2
                  cases h1 with
                  | func _ _ _ fc cc h3 h4 => exact ⟨fc, cc, rfl, h3, h4⟩
              have hfc0 : fc = #[] := by
                obtain ⟨l⟩ := fc
                cases hfc; rfl
              subst hfc0
              obtain ⟨pv, rfl, hpv⟩ : ∃ pv, cc = #[pv] ∧ VR μ (.ptr (some (b, 0))) pv := by
                obtain ⟨l⟩ := cc
                cases hcc with
                | cons _ _ _ _ h1 h2 => cases h2; exact ⟨_, rfl, h1⟩
              obtain ⟨bi, rfl, hbi⟩ := hpv.ptr_inv
              obtain ⟨bi', hbi', q1, q2, q3, q4, cc, el, fr, q5, q6, q7, q8, q9, q10, q11⟩ := hR.blk b _ hgb
              rw [hbi] at hbi'
              cases hbi'
              obtain ⟨hdel, hcsz⟩ := q11 rfl
              obtain ⟨mv, hmv1, hmv2⟩ := q8.get (n := 0) (v := .map (some m)) rfl
              obtain ⟨mi, rfl, hmi⟩ := hmv2.map_inv
              have hc0 : w.cell? ⟨bi.blk, 0, none⟩ = some (.map (some mi.blk)) := by
                rw [hdel, List.drop_zero, List.getElem?_take] at hmv1
                split at hmv1
                · simp only [World.cell?, q5]
                  rw [← Array.getElem?_toList]
                  exact hmv1
                · cases hmv1
              have hargs : (⟨bi.blk, bi.del + 0, none⟩ : Addr) = ⟨bi.blk, 0, none⟩ := by rw [hdel]
              rw [hargs]
              obtain ⟨hro, ees, clock, hh, hms, hst⟩ := hR.map hm hmi
              obtain ⟨hkeys, hrange⟩ := keysS_get es ees.toList ks hms hks
              have hlen2 : ees.toList.length = ks.length := by
                have := congrArg List.length hkeys
                simpa using this
              have hrd : ∀ x ∈ ees.toList, ∃ n, x.key = encStr n ∧ WideElems.rd P K anyR x = some (.string n, .nil) := fun x hx => by
                have : x.key ∈ ees.toList.map (·.key) := List.mem_map_of_mem hx
                rw [hkeys] at this
                obtain ⟨n, hn, hx⟩ := List.mem_map.1 this
                exact ⟨n, hx.symm, anyR_rgS hK hx.symm (hrange n hn)⟩
              have hfit : WideElems.Fit P K anyR ees clock := {
                size := by rw [← Array.length_toList, hlen2]; unfold maxLen; omega
                stamped := (MapKept.stamped_iff ees clock).2 ⟨hst.2, hst.1, by
                  have : (ees.toList.map (·.key)).Nodup := by
                    rw [hkeys]
                    exact List.Pairwise.map _ (fun a b h he => h (by simpa [encStr] using he)) hnd
                  exact (List.pairwise_map.1 this)⟩
                reads := fun x hx => by obtain ⟨n, _, h⟩ := hrd x hx; exact ⟨_, h⟩ }
              let D0 : DataW Unit := .map ((ees.toList.map (WideElems.rg P K anyR)).foldr DataW.insert [])
              have hown : w.ownsMap P K anyR mi.blk ees.size D0 := ⟨ees, clock, hh, hfit, Nat.le_refl _, rfl⟩
              have hsize : Maps.size D0 = ks.length := by
                show ((ees.toList.map (WideElems.rg P K anyR)).foldr DataW.insert []).length = _
                rw [length_sorted, List.length_map, hlen2]
              have hik : (strKeys D0).Perm ks := by
                have h1 := (WideShapes.sorted_perm (ees.toList.map (WideElems.rg P K anyR))).map fun p => strOf p.1
                refine h1.trans (List.Perm.of_eq ?_)
                have h2 : ∀ (l : List MapEntry) (m : List (List UInt8)), l.map (·.key) = m.map encStr → (∀ k ∈ m, k.length < 1099511627776) → (l.map (WideElems.rg P K anyR)).map (fun p => strOf p.1) = m := by
                  intro l
                  induction l with
                  | nil => intro m h _; cases m with
                    | nil => rfl
                    | cons => simp at h
                  | cons x l ih =>
                    intro m h hr
                    cases m with
                    | nil => simp at h
                    | cons k m =>
                      simp only [List.map_cons, List.cons.injEq] at h
                      have := anyR_rgS hK h.1 (hr k (by simp))
                      simp only [List.map_cons, WideElems.rg, this, Option.getD_some]
                      exact congrArg (k :: ·) (ih m h.2 fun q hq => hr q (by simp [hq]))
                exact h2 _ _ hkeys hrange
              have hlt := hR.inb hgb hbi
              refine (hS w bi.blk mi.blk ees.size D0 hlt ?_ hown (by rw [hsize]; unfold maxLen; omega) (by rw [hsize]; omega)).mono ?_
              · exact hc0
              · rintro e w' ⟨v, ss, rfl, hperm, hrow, hnil, hbelow⟩
                have hpk := hperm.trans hik
                have hsl : ss.length = ks.length := hpk.length_eq
                rw [mergeSort_isortS ss ks hpk] at hrow
                cases ks with
                | nil =>
                  simp only [Option.some.injEq, Prod.mk.injEq] at hs
                  obtain ⟨rfl, rfl⟩ := hs
                  have hv0 := hnil.2 (List.eq_nil_of_length_eq_zero hsl)
                  subst hv0
                  exact ⟨μ, _, rfl, .nilslice, Stp.below hR hbelow⟩
                | cons k0 kr =>
                  simp only [Option.some.injEq, Prod.mk.injEq] at hs
                  obtain ⟨rfl, rfl⟩ := hs
                  rcases hrow.2 with ⟨rfl, hz⟩ | ⟨g, cap, cur, rfl, hbase, hg', r1, r2, r3, r4⟩
                  · rw [hsl] at hz; simp at hz
                  · let i : BI := ⟨g, 0, (k0 :: kr).length, cur.size, 1, false, false⟩
                    have hgl : g < w'.heap.size := (Array.getElem?_eq_some_iff.1 hg').1
                    have hlk : (isortS (k0 :: kr)).length = (k0 :: kr).length := (isortS_perm _).length_eq
                    refine ⟨μ.upd s.nx i, _, rfl, ?_, Stp.newBelow hR hbelow i hbase hgl ?_⟩
                    · have := VR.slice (μ := μ.upd s.nx i) s.nx 0 ss.length (k0 :: kr).length cap i (Mu.upd_same _ _ _) (by omega) (.inr ⟨rfl, by show 0 + (k0 :: kr).length * 1 = (k0 :: kr).length; omega, by omega, by show 0 + 0 + cap * 1 ≤ cur.size; omega⟩)
                      rw [hsl] at this
                      rw [hsl]
                      exact this
                    · refine ⟨?_, rfl, rfl, rfl, cur, K, (0, 0), hg', rfl, ?_, ?_, (fun _ j _ => by simp), (fun t ht => by cases ht), (fun h => by cases h)⟩
                      · show (k0 :: kr).length = ((isortS (k0 :: kr)).map AV.str).length
                        rw [List.length_map, hlk]
                      · show 0 + ((isortS (k0 :: kr)).map AV.str).length ≤ cur.size
                        rw [List.length_map, hlk]; omega
                      · show VRs _ _ ((cur.toList.drop 0).take ((isortS (k0 :: kr)).map AV.str).length)
                        rw [List.drop_zero, List.length_map, hlk]
                        rw [hsl, Nat.mul_one] at r4
                        rw [r4]
                        exact VRs.of_map _ _ _ fun x _ => VR.of_bytes x
            · cases hs
          · cases hs
        · cases hs
      · cases hs
    · cases hs
  · cases hs

end
end Go.Ai

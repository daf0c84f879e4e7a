/- Summaries: (*strings.Builder).copyCheck. -/
import Derived.Test.YtcjfijmbdoiaiaaGreatDoorRbAi25
set_option linter.unusedSimpArgs false
set_option linter.unusedVariables false
namespace Go.Ai

section
variable {P : Program} {μ : Mu} {s : AS} {w w' : World}

/-- (*strings.Builder).copyCheck, over a builder's own block. -/
def sumCopy (T : TypeId) : ASum
  | [.ptr (some (b, 0))], s =>
    match s.get b with
    | some (.cells [.ptr pa, _] _ true false (some t)) =>
      if t = T then
        match pa with
        | none => (s.stores b 0 [.ptr (some (b, 0))]).map fun s' => (.tuple [], s')
        | some (b', o') => if b' = b ∧ o' = 0 then some (.tuple [], s) else none
      else none
    | _ => none
  | _, _ => none

theorem sumCopy_ok {f : FuncId} {T : TypeId} (hb : goBody P f = true)
    (hused : ∀ (b : Nat) (w : World), w.cell? ⟨b, 0, none⟩ = some (.pointer (some ⟨b, 0, none⟩)) → Calls P f #[.pointer (some ⟨b, 0, none⟩)] w fun e w' => e = .returned (.tuple #[]) ∧ w' = w)
    (hfresh : ∀ (b : Nat) (w : World), w.cell? ⟨b, 0, none⟩ = some (.pointer none) → w.shape? b = some (T, 2) → w.frozen? ⟨b, 0, none⟩ = false →
      Calls P f #[.pointer (some ⟨b, 0, none⟩)] w fun e w' => e = .returned (.tuple #[]) ∧ w' = w.setCell ⟨b, 0, none⟩ (.pointer (some ⟨b, 0, none⟩))) : SumOK P f (sumCopy T) := by
  intro args s r s' hs
  refine ⟨hb, fun μ w args' _ hv hR => ?_⟩
  unfold sumCopy at hs
  split at hs
  · rename_i b
    split at hs
    · rename_i pa _ esz t hg
      split at hs
      · rename_i ht
        subst ht
        obtain ⟨i, hi, k1, k2, k3, k4, cc, el, fr, k5, k6, k7, k8, k9, k10, k11⟩ := hR.blk b _ hg
        obtain ⟨hdel, hsz⟩ := k11 rfl
        have hel := k10 _ rfl
        subst hel
        have hargs : args' = #[.pointer (some ⟨i.blk, 0, none⟩)] := by
          obtain ⟨l⟩ := args'
          cases hv with
          | cons _ _ _ _ ha hl =>
            cases hl
            obtain ⟨j, hj, hj2⟩ := ha.ptr_inv
            rw [hi] at hj2
            cases hj2
            rw [hj, hdel]
        subst hargs
        obtain ⟨v0, q1, q2⟩ := k8.get (n := 0) (v := .ptr pa) rfl
        have hc0 : w.cell? ⟨i.blk, 0, none⟩ = some v0 := by
          rw [hdel, List.drop_zero, List.getElem?_take] at q1
          split at q1
          · simp only [World.cell?, k5]
            rw [← Array.getElem?_toList]
            exact q1
          · cases q1
        split at hs
        · obtain rfl : v0 = .pointer none := by cases q2; rfl
          simp only [Option.map_eq_some_iff, Prod.mk.injEq] at hs
          obtain ⟨s1, hst, rfl, rfl⟩ := hs
          obtain ⟨m1, m2, m3, m4⟩ := hR.stores hst hi (vs' := [.pointer (some ⟨i.blk, 0, none⟩)]) (.cons _ _ _ _ (by have := VR.ptr (μ := μ) b 0 i hi; rwa [hdel] at this) .nil)
          have hfz := m2 0 (by simp)
          rw [hdel] at hfz m4
          refine (hfresh i.blk w hc0 (by simp [World.shape?, k5, hsz]) hfz).mono fun e w' ⟨he, hw⟩ => ⟨μ, _, he, .tuple _ _ .nil, ?_⟩
          rw [hw]
          exact m4
        · rename_i b' o'
          split at hs
          · rename_i hbo
            obtain ⟨rfl, rfl⟩ := hbo
            simp only [Option.some.injEq, Prod.mk.injEq] at hs
            obtain ⟨rfl, rfl⟩ := hs
            obtain ⟨j, hj, hj2⟩ := q2.ptr_inv
            rw [hi] at hj2
            cases hj2
            rw [hj, hdel] at hc0
            exact (hused i.blk w hc0).mono fun e w' ⟨he, hw⟩ => ⟨μ, _, he, .tuple _ _ .nil, by rw [hw]; exact Stp.refl hR⟩
          · cases hs
      · cases hs
    · cases hs
  · cases hs

end
end Go.Ai

/- The abstract interpreter's operations are the model's: a string out of a builder's bytes. -/
import Derived.Test.YtcjfijmbdoiaiaaGreatDoorRbAi13
import Derived.Lib.UnsafeStr
set_option linter.unusedSimpArgs false
set_option linter.unusedVariables false
namespace Go.Ai

section
variable {P : Program} {μ : Mu} {s : AS} {w : World} {tm : Tm} {a : Act} {o : Oper}

/-- A block is given up, and the model's turns. -/
theorem Stp.lose {w' : World} (hR : Rel μ s w) {b : Nat} {i : BI} {ob : ABlk} (hg : s.get b = some ob) (hi : μ b = some i) (hro : i.ro = false)
    (hsz : w'.heap.size = w.heap.size) (hw : ∀ c, c ≠ i.blk → w'.heap[c]? = w.heap[c]?) (hos : w'.os = w.os) (hout : w'.output = w.output) (htape : w'.tape = w.tape) : Stp μ s w μ (s.kill b) w' where
  ext := .refl μ
  rel := {
    blk := fun c o' hc => by
      have hs := s.kill_sub b c o' hc
      obtain ⟨j, h1, h2⟩ := hR.blk c o' hs
      refine ⟨j, h1, h2.of_heap (hw _ fun he => ?_)⟩
      have hcb := hR.sep b c ob o' i j hg hs hi h1 he.symm hro
      subst hcb
      rw [AS.get_kill, if_pos rfl] at hc
      cases hc
    sep := fun c c' o₁ o₂ i₁ i₂ h1 h2 => hR.sep c c' o₁ o₂ i₁ i₂ (s.kill_sub b c o₁ h1) (s.kill_sub b c' o₂ h2)
    fresh := hR.fresh }
  keep := fun c _ hn => hw c fun he => hn ⟨b, ob, i, hg, hi, hro, he.symm⟩
  ws := fun _ hc => .inl (hc.sub (s.kill_sub b))
  us := fun _ hc => .inl (hc.sub (s.kill_sub b))
  mnew := fun _ h _ => h
  dom := fun c hc => by
    cases ho : (s.kill b).get c with
    | none => exact absurd ho hc
    | some o => exact .inl (by rw [s.kill_sub b c o ho]; simp)
  nx := Nat.le_refl _
  size := Nat.le_of_eq hsz.symm
  os := hos
  out := hout
  tape := htape

theorem run_loadBytesI (w : World) : ∀ (ns : List Int) (ad : Addr) (acc : ByteArray), (∀ j x, ns[j]? = some x → w.cell? (ad.add j) = some (.int .u8 x)) →
    (loadBytes ad acc ns.length).run P w = .ok (ns.foldl (fun r n => r.push (UInt8.ofNat n.toNat)) acc) w
  | [], _, _, _ => rfl
  | n :: ns, ad, acc, h => by
    have h0 : w.cell? ad = some (.int .u8 n) := by
      have := h 0 n rfl
      have e : ad.add 0 = ad := by simp [Addr.add]
      rwa [e] at this
    have ih := run_loadBytesI w ns (ad.add 1) (acc.push (UInt8.ofNat n.toNat)) (fun j x hj => by
      have := h (j + 1) x (by simpa using hj)
      have e : (ad.add 1).add j = ad.add (j + 1) := by
        unfold Addr.add
        by_cases hj : j = 0
        · subst hj; simp
        · simp [hj]; omega
      rw [e]; exact this)
    simp only [List.length_cons, loadBytes, Sem.run_bind, run_load, h0, Result.andThen]
    exact ih

theorem liesAt_from {e : TypeId} (hc : P.cellsOf e = 1) (count off n : Nat) (hn : off + n ≤ count) : liesAt P P.depth e count off e n = true := by
  have hd : P.depth = (2 * (P.types.size + Made.depth) + 1) + 1 := rfl
  rw [hd]
  simp only [liesAt, Bool.or_eq_true]
  left
  rw [hd]
  simp [rowAt, hc, hn, sameLayout, Nat.mod_one]

theorem unsafeString_def (ts : Array TypeId) (ty : TypeId) (p : Option Addr) (x : Value) : Builtin.unsafeString_ ts ty #[.pointer p, x] = (do
    let n ← asInt x
    let some pt := ts[0]? | stuck "unsafe.String: no argument types"
    if n < 0 then runtimePanic (.error "unsafe.String: len out of range")
    if n > IntKind.i64.max then unsupported (.unsafePointer "String: a length above the largest int")
    match p with
    | none =>
      if n = 0 then pure (.string .empty)
      else runtimePanic (.error "unsafe.String: ptr is nil and len is not zero")
    | some a =>
      if n = 0 then pure (.string .empty)
      else if ← variablesAt a (← elemOf pt) n.toNat then do
        let s ← loadBytes a .empty n.toNat
        freeze a n.toNat
        pure (.string s)
      else unsupported (.unsafePointer "String: not so many bytes at ptr")) := rfl

theorem run_unsafeString_from (w : World) (ts : Array TypeId) (pt ty e : TypeId) (ht : ts[0]? = some pt) (hp : P.underlying pt = some (.pointer e)) (hc : P.cellsOf e = 1) (g f cells : Nat) (hsh : w.shape? g = some (e, cells)) (ns : List Int) (h0 : ns ≠ []) (hn : f + ns.length ≤ cells)
    (h63 : ns.length ≤ 9223372036854775807) (hcell : ∀ j x, ns[j]? = some x → w.cell? ((⟨g, f, none⟩ : Addr).add j) = some (.int .u8 x)) :
    (Builtin.unsafeString_ ts ty #[.pointer (some ⟨g, f, none⟩), .int .i64 ns.length]).run P w = .ok (.string (ns.foldl (fun r n => r.push (UInt8.ofNat n.toNat)) .empty)) (w.freeze ⟨g, f, none⟩ ns.length) := by
  have hl : ns.length ≠ 0 := by simpa using h0
  have hlb := run_loadBytesI (P := P) w ns ⟨g, f, none⟩ .empty hcell
  have hlies := liesAt_from (P := P) hc (cells / P.cellsOf e) f ns.length (by rw [hc]; simpa using hn)
  have h63' : ¬ (9223372036854775807 : Int) < (ns.length : Int) := by omega
  have hmax : IntKind.i64.max = 9223372036854775807 := rfl
  have hneg : ¬ (ns.length : Int) < 0 := by omega
  rw [unsafeString_def]
  simp [ht, asInt, asIntOf, hmax, h63', hneg, hl, variablesAt, hsh, elemOf, run_underlying hp, hlies, hlb]

theorem ok_usd (hg : GOK P μ) (hT : TR μ tm a.tmps) (hR : Rel μ s w) {c : Call} {x : Operand} (ho : o.op = .call c) (hc : c.callee = .builtin .unsafeSliceData) (ha : c.args = #[x]) {ax : AX} (hx : cx P x = some ax)
    {v : AV} {s' : AS} (h : aop tm s (.usd ax) = some (v, s')) : Good μ s w ((execOp a.eval o).run P w) v s' := by
  have h1 := cx_ok hg hT hx
  have key : ∀ v', (Builtin.unsafeSliceData_ c.argTypes o.type #[a.eval x]).run P w = .ok v' w → (execOp a.eval o).run P w = .ok (.value v') w := by
    intro v' hv
    simp [execOp, ho, resolve, hc, invoke, builtin, ha, hv]
  simp only [aop] at h
  split at h
  · rename_i l cp ev
    rw [ev] at h1
    simp only [Option.some.injEq, Prod.mk.injEq] at h
    obtain ⟨rfl, rfl⟩ := h
    obtain ⟨rfl, rfl, hv⟩ := h1.nilslice_inv
    rw [key _ (by rw [hv]; exact Lib.run_unsafeSliceData_nil w _ _ _ _)]
    exact .value hR .nilptr
  · rename_i b f l cp ev
    rw [ev] at h1
    split at h
    · cases h
    · rename_i hcp
      simp only [Option.some.injEq, Prod.mk.injEq] at h
      obtain ⟨rfl, rfl⟩ := h
      obtain ⟨i, hi, hlc, hcase⟩ := h1.slice_inv
      rcases hcase with ⟨c', hv, hcap⟩ | ⟨_, h0, _⟩
      · have hc' : c' ≠ 0 := by
          rcases hcap with h | ⟨_, _, h, _⟩ <;> omega
        rw [key _ (by rw [hv]; exact Lib.run_unsafeSliceData_row w _ _ _ _ _ hc')]
        exact .value hR (.ptr b f i hi)
      · exact absurd h0 hcp
  · cases h

theorem freeze_heap (w : World) (ad : Addr) (n : Nat) : (w.freeze ad n).heap.size = w.heap.size ∧ (∀ c, c ≠ ad.block → (w.freeze ad n).heap[c]? = w.heap[c]?) ∧ (w.freeze ad n).os = w.os ∧ (w.freeze ad n).output = w.output ∧ (w.freeze ad n).tape = w.tape := by
  unfold World.freeze
  split
  · exact ⟨rfl, fun _ _ => rfl, rfl, rfl, rfl⟩
  · exact ⟨by simp, fun c hc => by simp [Array.getElem?_modify, Ne.symm hc], rfl, rfl, rfl⟩

theorem ok_ustr (hg : GOK P μ) (hT : TR μ tm a.tmps) (hR : Rel μ s w) {c : Call} {p n : Operand} (ho : o.op = .call c) (hc : c.callee = .builtin .unsafeString) (ha : c.args = #[p, n]) {t e : TypeId} (ht : c.argTypes[0]? = some t)
    (hu : P.underlying t = some (.pointer e)) (he : P.cellsOf e = 1) {ap an : AX} (hp : cx P p = some ap) (hn : cx P n = some an)
    {v : AV} {s' : AS} (h : aop tm s (.ustr e ap an) = some (v, s')) : Good μ s w ((execOp a.eval o).run P w) v s' := by
  have h1 := cx_ok hg hT hp
  have h2 := cx_ok hg hT hn
  have key : ∀ v' w', (Builtin.unsafeString_ c.argTypes o.type #[a.eval p, a.eval n]).run P w = .ok v' w' → (execOp a.eval o).run P w = .ok (.value v') w' := by
    intro v' w' hv
    simp [execOp, ho, resolve, hc, invoke, builtin, ha, hv]
  simp only [aop] at h
  split at h
  · rename_i pa m e1 e2
    rw [e1] at h1
    rw [e2] at h2
    have hm := h2.int_inv
    have hptr : ∃ q, a.eval p = .pointer q := by
      generalize a.eval p = u at h1
      cases h1 <;> exact ⟨_, rfl⟩
    split at h
    · rename_i h0
      subst h0
      simp only [Option.some.injEq, Prod.mk.injEq] at h
      obtain ⟨rfl, rfl⟩ := h
      obtain ⟨q, hq⟩ := hptr
      have : (Builtin.unsafeString_ c.argTypes o.type #[a.eval p, a.eval n]).run P w = .ok (.string .empty) w := by
        rw [hq, hm]
        have hmax : IntKind.i64.max = 9223372036854775807 := rfl
        rw [unsafeString_def]
        cases q <;> simp [ht, asInt, asIntOf, hmax]
      rw [key _ _ this]
      exact .value hR (.str _ _ rfl)
    · rename_i h0
      split at h
      · cases h
      · rename_i b f
        split at h
        · rename_i cs esz ex el' hgb
          split at h
          · rename_i hcond
            obtain ⟨rfl, hm0, hm1⟩ := hcond
            split at h
            · rename_i l hl
              split at h
              · rename_i tt htt
                simp only [Option.some.injEq, Prod.mk.injEq] at h
                obtain ⟨rfl, rfl⟩ := h
                obtain ⟨i, hpv, hi⟩ := h1.ptr_inv
                have hload : s.loads b f m.toNat = some l := by unfold AS.loads; rw [hgb]; exact hl
                obtain ⟨hlen, cs', hvs, hcell⟩ := hR.loads hload hi
                obtain ⟨ns, rfl, rfl⟩ := bytesOf_some htt
                have hcs' := hvs.ints
                subst hcs'
                obtain ⟨i', hi', k1, k2, k3, k4, cc, el, fr, k5, k6, k7, k8, k9, k10⟩ := hR.blk b _ hgb
                rw [hi] at hi'; cases hi'
                have hel := k10.1 _ rfl
                subst hel
                have hnl : ns.length = m.toNat := by simpa using hlen
                obtain ⟨q1, q2⟩ := takeX_some hl
                have hfit : i.del + f + ns.length ≤ cc.size := by
                  simp at q1
                  omega
                have hmi : m = (ns.length : Int) := by omega
                have hns : ns ≠ [] := by
                  intro hh
                  rw [hh] at hmi
                  exact h0 (by simpa using hmi)
                have hrun := run_unsafeString_from (P := P) w c.argTypes t o.type el ht hu he i.blk (i.del + f) cc.size (by simp [World.shape?, k5]) ns hns hfit (by omega)
                  (fun j x hj => by rw [Addr.add_lit]; exact hcell j _ (by rw [List.getElem?_map, hj]; rfl))
                rw [← hmi, ← hpv, ← hm] at hrun
                rw [key _ _ hrun]
                obtain ⟨z1, z2, z3, z4, z5⟩ := freeze_heap w ⟨i.blk, i.del + f, none⟩ ns.length
                exact ⟨μ, _, _, .inl rfl, .str _ _ (by rw [foldl_push]; rfl), Stp.lose hR hgb hi k4 z1 z2 z3 z4 z5⟩
              · cases h
            · cases h
          · cases h
        · cases h
  · cases h

end
end Go.Ai

/- Single answers of calls: what a function's text shows of one call; answers may be told anew by other numbers of new blocks, and without blocks that nobody reaches. -/
import Derived.Test.YtcjfijmbdoiaiaaGreatDoorRbAi26
set_option linter.unusedSimpArgs false
set_option linter.unusedVariables false
namespace Go.Ai

/-! ## Whose blocks are below a number -/

mutual
def AV.lo (n : Nat) : AV → Prop
  | .ptr (some (b, _)) => b < n
  | .slice (some (b, _)) _ _ => b < n
  | .map (some b) => b < n
  | .func _ fa ca => AV.los n fa ∧ AV.los n ca
  | .iface _ v => AV.lo n v
  | .agg l => AV.los n l
  | .tuple l => AV.los n l
  | _ => True
def AV.los (n : Nat) : List AV → Prop
  | [] => True
  | v :: l => AV.lo n v ∧ AV.los n l
end

mutual
def AV.ren (ρ : Nat → Nat) : AV → AV
  | .ptr (some (b, o)) => .ptr (some (ρ b, o))
  | .slice (some (b, o)) l c => .slice (some (ρ b, o)) l c
  | .map (some b) => .map (some (ρ b))
  | .func fn fa ca => .func fn (AV.rens ρ fa) (AV.rens ρ ca)
  | .iface t v => .iface t (AV.ren ρ v)
  | .agg l => .agg (AV.rens ρ l)
  | .tuple l => .tuple (AV.rens ρ l)
  | v => v
def AV.rens (ρ : Nat → Nat) : List AV → List AV
  | [] => []
  | v :: l => AV.ren ρ v :: AV.rens ρ l
end

theorem AV.rens_length (ρ : Nat → Nat) : ∀ l : List AV, (AV.rens ρ l).length = l.length
  | [] => rfl
  | _ :: l => by simp [AV.rens, AV.rens_length ρ l]

theorem AV.rens_eq (ρ : Nat → Nat) : ∀ l : List AV, AV.rens ρ l = l.map (AV.ren ρ)
  | [] => rfl
  | _ :: l => by simp [AV.rens, AV.rens_eq ρ l]

theorem AV.los_iff (n : Nat) : ∀ l : List AV, AV.los n l ↔ ∀ v ∈ l, v.lo n
  | [] => by simp [AV.los]
  | _ :: l => by simp [AV.los, AV.los_iff n l]

mutual
theorem VR.lo {μ : Mu} {n : Nat} (hm : ∀ b i, μ b = some i → b < n) : ∀ {v : AV} {v' : Value}, VR μ v v' → v.lo n
  | _, _, .bool b => trivial
  | _, _, .int k n => trivial
  | _, _, .str l s h => trivial
  | _, _, .nilptr => trivial
  | _, _, .ptr b o i h => hm b i h
  | _, _, .nilslice => trivial
  | _, _, .slice b o l c c' i h hl hc => hm b i h
  | _, _, .slice0 b o o' i h => hm b i h
  | _, _, .nilmap => trivial
  | _, _, .map b i h => hm b i h
  | _, _, .func fn fa ca fc cc hf hc => ⟨VRs.lo hm hf, VRs.lo hm hc⟩
  | _, _, .nilFunc => trivial
  | _, _, .iface _ v v' h => show AV.lo n v from VR.lo hm h
  | _, _, .nilIface => trivial
  | _, _, .agg l cs h => VRs.lo hm h
  | _, _, .tuple l cs h => VRs.lo hm h
theorem VRs.lo {μ : Mu} {n : Nat} (hm : ∀ b i, μ b = some i → b < n) : ∀ {l : List AV} {l' : List Value}, VRs μ l l' → AV.los n l
  | _, _, .nil => trivial
  | _, _, .cons v v' l l' h hl => ⟨VR.lo hm h, VRs.lo hm hl⟩
end

/-- The blocks below n by another numbering. -/
def Mu.via (μ : Mu) (ρ : Nat → Nat) (n : Nat) : Mu := fun b => if b < n then μ (ρ b) else none

theorem Mu.via_some {μ : Mu} {ρ : Nat → Nat} {n b : Nat} {i : BI} (h : μ.via ρ n b = some i) : b < n ∧ μ (ρ b) = some i := by
  unfold Mu.via at h
  split at h
  · exact ⟨by assumption, h⟩
  · cases h

theorem Mu.via_of {μ : Mu} {ρ : Nat → Nat} {n b : Nat} (h : b < n) : μ.via ρ n b = μ (ρ b) := by simp [Mu.via, h]

mutual
theorem VR.via {μ : Mu} (ρ : Nat → Nat) (n : Nat) : ∀ (v : AV) (v' : Value), VR μ (v.ren ρ) v' → v.lo n → VR (μ.via ρ n) v v'
  | .bool b, _, h, _ => by cases h; exact .bool b
  | .int k m, _, h, _ => by cases h; exact .int k m
  | .str l, _, h, _ => by cases h; exact .str _ _ (by assumption)
  | .ptr none, _, h, _ => by cases h; exact .nilptr
  | .ptr (some (b, o)), _, h, hb => by
    simp only [AV.ren] at h
    cases h with
    | ptr _ _ i h => exact .ptr b o i (by rw [Mu.via_of hb]; exact h)
  | .slice none l c, _, h, _ => by cases h; exact .nilslice
  | .slice (some (b, o)) l c, _, h, hb => by
    simp only [AV.ren] at h
    cases h with
    | slice _ _ _ _ c' i h hl hc => exact .slice b o l c c' i (by rw [Mu.via_of hb]; exact h) hl hc
    | slice0 _ _ o' i h => exact .slice0 b o o' i (by rw [Mu.via_of hb]; exact h)
  | .map none, _, h, _ => by cases h; exact .nilmap
  | .map (some b), _, h, hb => by
    simp only [AV.ren] at h
    cases h with
    | map _ i h => exact .map b i (by rw [Mu.via_of hb]; exact h)
  | .func fn fa ca, _, h, hb => by
    simp only [AV.ren] at h
    cases h with
    | func _ _ _ fc cc hf hc => exact .func fn fa ca fc cc (VRs.via ρ n fa _ hf hb.1) (VRs.via ρ n ca _ hc hb.2)
  | .nilFunc, _, h, _ => by cases h; exact .nilFunc
  | .iface t v, _, h, hb => by
    simp only [AV.ren] at h
    cases h with
    | iface _ _ v' h => exact .iface t v v' (VR.via ρ n v v' h hb)
  | .nilIface, _, h, _ => by cases h; exact .nilIface
  | .agg l, _, h, hb => by
    simp only [AV.ren] at h
    cases h with
    | agg _ cs h => exact .agg l cs (VRs.via ρ n l _ h hb)
  | .tuple l, _, h, hb => by
    simp only [AV.ren] at h
    cases h with
    | tuple _ cs h => exact .tuple l cs (VRs.via ρ n l _ h hb)
theorem VRs.via {μ : Mu} (ρ : Nat → Nat) (n : Nat) : ∀ (l : List AV) (l' : List Value), VRs μ (AV.rens ρ l) l' → AV.los n l → VRs (μ.via ρ n) l l'
  | [], _, h, _ => by cases h; exact .nil
  | v :: l, _, h, hb => by
    simp only [AV.rens] at h
    cases h with
    | cons _ v' _ l' h hl => exact .cons _ _ _ _ (VR.via ρ n v v' h hb.1) (VRs.via ρ n l l' hl hb.2)
end

mutual
theorem AV.ren_id {ρ : Nat → Nat} {n : Nat} (h : ∀ b, b < n → ρ b = b) : ∀ v : AV, v.lo n → v.ren ρ = v
  | .bool b, _ => rfl
  | .int k m, _ => rfl
  | .str l, _ => rfl
  | .ptr none, _ => rfl
  | .ptr (some (b, o)), hb => by simp only [AV.ren]; rw [h b hb]
  | .slice none l c, _ => rfl
  | .slice (some (b, o)) l c, hb => by simp only [AV.ren]; rw [h b hb]
  | .map none, _ => rfl
  | .map (some b), hb => by simp only [AV.ren]; rw [h b hb]
  | .func fn fa ca, hb => by simp only [AV.ren]; rw [AV.rens_id h fa hb.1, AV.rens_id h ca hb.2]
  | .nilFunc, _ => rfl
  | .iface t v, hb => by simp only [AV.ren]; rw [AV.ren_id h v hb]
  | .nilIface, _ => rfl
  | .agg l, hb => by simp only [AV.ren]; rw [AV.rens_id h l hb]
  | .tuple l, hb => by simp only [AV.ren]; rw [AV.rens_id h l hb]
theorem AV.rens_id {ρ : Nat → Nat} {n : Nat} (h : ∀ b, b < n → ρ b = b) : ∀ l : List AV, AV.los n l → AV.rens ρ l = l
  | [], _ => rfl
  | v :: l, hb => by simp only [AV.rens]; rw [AV.ren_id h v hb.1, AV.rens_id h l hb.2]
end

mutual
theorem AV.lo_mono {n m : Nat} (h : n ≤ m) : ∀ v : AV, v.lo n → v.lo m
  | .bool b, _ => trivial
  | .int k m, _ => trivial
  | .str l, _ => trivial
  | .ptr none, _ => trivial
  | .ptr (some (b, o)), hb => Nat.lt_of_lt_of_le hb h
  | .slice none l c, _ => trivial
  | .slice (some (b, o)) l c, hb => Nat.lt_of_lt_of_le hb h
  | .map none, _ => trivial
  | .map (some b), hb => Nat.lt_of_lt_of_le hb h
  | .func fn fa ca, hb => ⟨AV.los_mono h fa hb.1, AV.los_mono h ca hb.2⟩
  | .nilFunc, _ => trivial
  | .iface t v, hb => AV.lo_mono h v hb
  | .nilIface, _ => trivial
  | .agg l, hb => AV.los_mono h l hb
  | .tuple l, hb => AV.los_mono h l hb
theorem AV.los_mono {n m : Nat} (h : n ≤ m) : ∀ l : List AV, AV.los n l → AV.los m l
  | [], _ => trivial
  | v :: l, hb => ⟨AV.lo_mono h v hb.1, AV.los_mono h l hb.2⟩
end

/-! ## Blocks -/

def ABlk.lo (n : Nat) : ABlk → Prop
  | .cells cs _ _ _ _ => AV.los n cs
  | .map es => AV.los n (es.map (·.1)) ∧ AV.los n (es.map (·.2))
  | .buf _ => True

def ABlk.ren (ρ : Nat → Nat) : ABlk → ABlk
  | .cells cs e x r el => .cells (AV.rens ρ cs) e x r el
  | .map es => .map (es.map fun p => (p.1.ren ρ, p.2.ren ρ))
  | .buf s => .buf s

theorem ABlk.ren_id {ρ : Nat → Nat} {n : Nat} (h : ∀ b, b < n → ρ b = b) (o : ABlk) (ho : o.lo n) : o.ren ρ = o := by
  cases o with
  | cells cs e x r el => simp only [ABlk.ren]; rw [AV.rens_id h cs ho]
  | map es =>
    obtain ⟨h1, h2⟩ := ho
    simp only [ABlk.ren]
    congr 1
    refine (List.map_congr_left fun p hp => ?_).trans (List.map_id es)
    rw [AV.ren_id h p.1 ((AV.los_iff n _).1 h1 _ (List.mem_map_of_mem hp)), AV.ren_id h p.2 ((AV.los_iff n _).1 h2 _ (List.mem_map_of_mem hp))]
    rfl
  | buf s => rfl

theorem ABlk.lo_mono {n m : Nat} (h : n ≤ m) (o : ABlk) (ho : o.lo n) : o.lo m := by
  cases o with
  | cells cs e x r el => exact AV.los_mono h cs ho
  | map es => exact ⟨AV.los_mono h _ ho.1, AV.los_mono h _ ho.2⟩
  | buf s => trivial

theorem MRs.lo {μ : Mu} {n : Nat} (hm : ∀ b i, μ b = some i → b < n) {l : List (AV × AV)} {l' : List MapEntry} (h : MRs μ l l') : AV.los n (l.map (·.1)) ∧ AV.los n (l.map (·.2)) := by
  induction h with
  | nil => exact ⟨trivial, trivial⟩
  | cons k v e l l' hk hv _ ih => exact ⟨⟨hk.lo hm, ih.1⟩, ⟨hv.lo hm, ih.2⟩⟩

theorem MRs.via {μ : Mu} (ρ : Nat → Nat) (n : Nat) : ∀ (l : List (AV × AV)) (l' : List MapEntry), MRs μ (l.map fun p => (p.1.ren ρ, p.2.ren ρ)) l' → AV.los n (l.map (·.1)) → AV.los n (l.map (·.2)) → MRs (μ.via ρ n) l l'
  | [], _, h, _, _ => by cases h; exact .nil
  | (k, v) :: l, _, h, h1, h2 => by
    simp only [List.map_cons] at h
    cases h with
    | cons _ _ e _ l' hk hv hl => exact .cons k v e l l' (VR.via ρ n k _ hk h1.1) (VR.via ρ n v _ hv h2.1) (MRs.via ρ n l l' hl h1.2 h2.2)

theorem BR.lo {μ : Mu} {n : Nat} (hm : ∀ b i, μ b = some i → b < n) {i : BI} {w : World} {o : ABlk} (h : BR μ i w o) : o.lo n := by
  cases o with
  | cells cs esz ex ro elo =>
    obtain ⟨h1, h2, h3, h4, cc, el, fr, h5, h6, h7, h8, h9⟩ := h
    exact h8.lo hm
  | map es =>
    obtain ⟨h1, ees, clock, h2, h3, _⟩ := h
    exact h3.lo hm
  | buf s => trivial

theorem BR.via {μ : Mu} (ρ : Nat → Nat) (n : Nat) {i : BI} {w : World} {o : ABlk} (h : BR μ i w (o.ren ρ)) (ho : o.lo n) : BR (μ.via ρ n) i w o := by
  cases o with
  | cells cs esz ex ro elo =>
    obtain ⟨h1, h2, h3, h4, cc, el, fr, h5, h6, h7, h8, h9, h10, h11⟩ := h
    rw [AV.rens_length] at h1 h7 h8 h11
    exact ⟨h1, h2, h3, h4, cc, el, fr, h5, h6, h7, VRs.via ρ n cs _ h8 ho, h9, h10, h11⟩
  | map es =>
    obtain ⟨h1, ees, clock, h2, h3, h4⟩ := h
    exact ⟨h1, ees, clock, h2, MRs.via ρ n es _ h3 ho.1 ho.2, h4⟩
  | buf s => exact h

/-- A heap whose blocks, and what these hold, are below its end. -/
def AS.WF (s : AS) : Prop := ∀ b o, s.get b = some o → b < s.nx ∧ o.lo s.nx

theorem Rel.wf {μ : Mu} {s : AS} {w : World} (h : Rel μ s w) : s.WF := fun b o hb => by
  obtain ⟨i, h1, h2⟩ := h.blk b o hb
  exact ⟨h.fresh b i h1, h2.lo h.fresh⟩

theorem AS.WF.lt {s : AS} (h : s.WF) {b : Nat} {o : ABlk} (hb : s.get b = some o) : b < s.nx := (h b o hb).1
theorem AS.WF.lo {s : AS} (h : s.WF) {b : Nat} {o : ABlk} (hb : s.get b = some o) : o.lo s.nx := (h b o hb).2

/-! ## One call's answer -/

/-- From the heap s the function f may answer r and leave s'. -/
def Ev (P : Program) (f : FuncId) (args : List AV) (s : AS) (r : AV) (s' : AS) : Prop :=
  goBody P f = true ∧ ∀ μ w (args' : Array Value), GOK P μ → VRs μ args args'.toList → Rel μ s w → Calls P f args' w (CallPost μ s w r s')

section
variable {P : Program} {f : FuncId} {args : List AV} {s : AS} {r : AV} {s' : AS}

theorem CallOK.ev {call : ACall} (h : CallOK P call) (hc : call f args s = some (r, s')) : Ev P f args s r s' := h f args s r s' hc

theorem SumOK.of_ev {g : ASum} (h : ∀ args s r s', g args s = some (r, s') → Ev P f args s r s') : SumOK P f g := h
theorem SumOK.ev {g : ASum} (h : SumOK P f g) (hg : g args s = some (r, s')) : Ev P f args s r s' := h args s r s' hg

/-- What is there of a heap and its arguments may be used. -/
theorem Ev.intro (hb : goBody P f = true) (h : s.WF → AV.los s.nx args → Ev P f args s r s') : Ev P f args s r s' :=
  ⟨hb, fun μ w args' hg hv hR => (h hR.wf (hv.lo hR.fresh)).2 μ w args' hg hv hR⟩

/-- A function's text. -/
theorem Ev.of_afn (hmix : P.follows .mixedOrders = true) {call : ACall} (hcall : CallOK P call) {N : Nat} {af : AFn} {fn : Func} (hb : goBody P f = true) (hf : P.funcs[f]? = some fn) (hc : cfn P fn = some af)
    (h : s.WF → AV.los s.nx args → afn call N af args s = some (r, s')) : Ev P f args s r s' :=
  .intro hb fun hw hl => ⟨hb, fun _ _ _ hg hv hR => afn_ok hcall hmix hf hc (h hw hl) hg hv hR⟩

/-- The answer by other numbers of new blocks, and without what nobody reaches. -/
theorem Ev.gc {r₂ : AV} {s₂ : AS} (h : Ev P f args s r s') (ρ : Nat → Nat) (hn : s.nx ≤ s₂.nx)
    (hid : ∀ b, b < s.nx → ρ b = b)
    (hr : r = r₂.ren ρ) (hrb : r₂.lo s₂.nx)
    (hs : ∀ b o, s₂.get b = some o → b < s₂.nx ∧ o.lo s₂.nx ∧ s'.get (ρ b) = some (o.ren ρ))
    (hinj : ∀ b b', s₂.get b ≠ none → s₂.get b' ≠ none → ρ b = ρ b' → b = b') : Ev P f args s r₂ s₂ := by
  refine ⟨h.1, fun μ w args' hg hv hR => (h.2 μ w args' hg hv hR).mono fun e w' hp => ?_⟩
  obtain ⟨μ₁, v, rfl, hvr, hS⟩ := hp
  refine ⟨μ₁.via ρ s₂.nx, v, rfl, VR.via ρ _ _ _ (hr ▸ hvr) hrb, ?_⟩
  have hWS : ∀ c, WS (μ₁.via ρ s₂.nx) s₂ c → WS μ₁ s' c := by
    rintro c ⟨b, o, i, h1, h2, h3, h4⟩
    exact ⟨ρ b, _, i, (hs b o h1).2.2, (Mu.via_some h2).2, h3, h4⟩
  have hUS : ∀ c, US (μ₁.via ρ s₂.nx) s₂ c → US μ₁ s' c := by
    rintro c ⟨b, o, i, h1, h2, h4⟩
    exact ⟨ρ b, _, i, (hs b o h1).2.2, (Mu.via_some h2).2, h4⟩
  exact {
    ext := fun b i hb => by
      have hlt := hR.fresh b i hb
      rw [Mu.via_of (Nat.lt_of_lt_of_le hlt hn), hid b hlt]
      exact hS.ext b i hb
    rel := {
      blk := fun b o hb => by
        obtain ⟨k1, k2, k3⟩ := hs b o hb
        obtain ⟨i, h1, h2⟩ := hS.rel.blk _ _ k3
        exact ⟨i, by rw [Mu.via_of k1]; exact h1, BR.via ρ _ h2 k2⟩
      sep := fun b b' o o' i i' h1 h2 h3 h4 h5 h6 => hinj b b' (by rw [h1]; simp) (by rw [h2]; simp)
        (hS.rel.sep _ _ _ _ i i' (hs b o h1).2.2 (hs b' o' h2).2.2 (Mu.via_some h3).2 (Mu.via_some h4).2 h5 h6)
      fresh := fun b i hb => (Mu.via_some hb).1 }
    keep := hS.keep
    ws := fun c hc => hS.ws c (hWS c hc)
    us := fun c hc => hS.us c (hUS c hc)
    mnew := fun b hb hlt => by
      rw [Mu.via_of (Nat.lt_of_lt_of_le hlt hn), hid b hlt]
      exact hS.mnew b hb hlt
    dom := fun b hb => by
      by_cases hlt : b < s.nx
      · left
        cases ho : s₂.get b with
        | none => exact absurd ho hb
        | some o =>
          have h3 := (hs b o ho).2.2
          rw [hid b hlt] at h3
          rcases hS.dom b (by rw [h3]; simp) with h4 | h4
          · exact h4
          · omega
      · exact .inr (by omega)
    nx := hn
    size := hS.size
    os := hS.os
    out := hS.out
    tape := hS.tape }

/-- A function that leaves what was there, and hands back nothing new. -/
theorem Ev.pure (h : Ev P f args s r s') (hk : s.WF → ∀ b, b < s.nx → s'.get b = s.get b) (hr : AV.los s.nx args → s.WF → r.lo s.nx) : Ev P f args s r s :=
  .intro h.1 fun hw hl => h.gc (fun b => b) (Nat.le_refl _) (fun _ _ => rfl) (AV.ren_id (n := s.nx) (fun _ _ => rfl) r (hr hl hw)).symm (hr hl hw)
    (fun b o hb => ⟨hw.lt hb, hw.lo hb, by rw [hk hw b (hw.lt hb), hb, ABlk.ren_id (n := s.nx) (fun _ _ => rfl) o (hw.lo hb)]⟩) (fun _ _ _ _ h => h)

/-- A function that leaves what was there, and hands back one new block. -/
theorem Ev.one {r₂ : AV} {c : Nat} {o : ABlk} (h : Ev P f args s r s') (hc : s.nx ≤ c) (hk : s.WF → ∀ b, b < s.nx → s'.get b = s.get b) (ho : s'.get c = some o)
    (hob : s.WF → AV.los s.nx args → o.lo s.nx) (hr : r = r₂.ren fun b => if b = s.nx then c else b) (hr2 : s.WF → AV.los s.nx args → r₂.lo (s.nx + 1)) : Ev P f args s r₂ (s.new o) :=
  .intro h.1 fun hw hl => by
    have hid : ∀ b, b < s.nx → (if b = s.nx then c else b) = b := fun b hb => if_neg (by omega)
    refine h.gc (fun b => if b = s.nx then c else b) (Nat.le_succ _) hid hr (hr2 hw hl) (fun b o' hb => ?_) (fun b b' hb hb' e => ?_)
    · rw [AS.get_new] at hb
      split at hb
      · rename_i he
        cases hb
        refine ⟨by show b < s.nx + 1; omega, ABlk.lo_mono (Nat.le_succ _) _ (hob hw hl), ?_⟩
        rw [ABlk.ren_id (n := s.nx) hid o (hob hw hl)]
        simp only [he, if_true]
        exact ho
      · refine ⟨Nat.lt_succ_of_lt (hw.lt hb), ABlk.lo_mono (Nat.le_succ _) _ (hw.lo hb), ?_⟩
        rw [ABlk.ren_id (n := s.nx) hid o' (hw.lo hb)]
        have hlt := hw.lt hb
        simp only [hid b hlt]
        rw [hk hw b hlt, hb]
    · have key : ∀ x, (s.new o).get x ≠ none → x < s.nx + 1 := fun x hx => by
        rw [AS.get_new] at hx
        split at hx
        · omega
        · cases hg : s.get x with
          | none => exact absurd hg hx
          | some y => exact Nat.lt_succ_of_lt (hw.lt hg)
      have k1 := key b hb
      have k2 := key b' hb'
      have e : (if b = s.nx then c else b) = (if b' = s.nx then c else b') := e
      split at e <;> split at e <;> omega

end

/-! ## Tables of summaries -/

/-- Calls by summaries alone. -/
def scall : List (FuncId × ASum) → ACall
  | [], _, _, _ => none
  | (g, S) :: t, f, args, s => if f = g then S args s else scall t f args s

theorem scall_ok {P : Program} : ∀ (t : List (FuncId × ASum)), (∀ x ∈ t, SumOK P x.1 x.2) → CallOK P (scall t)
  | [], _, _, _, _, _, _, h => by cases h
  | (g, S) :: t, ht, f, args, s, r, s', h => by
    by_cases he : f = g
    · subst he
      refine ht (f, S) (by simp) args s r s' ?_
      have h2 : (if f = f then S args s else scall t f args s) = some (r, s') := h
      rwa [if_pos rfl] at h2
    · refine scall_ok t (fun x hx => ht x (by simp [hx])) f args s r s' ?_
      have h2 : (if f = g then S args s else scall t f args s) = some (r, s') := h
      rwa [if_neg he] at h2

open Classical in
/-- A contract as a summary: some answer that the contract allows. -/
noncomputable def conSum (P : Program) (f : FuncId) (C : List AV → AS → AV → AS → Prop) : ASum := fun args s =>
  if h : ∃ p : AV × AS, Ev P f args s p.1 p.2 ∧ C args s p.1 p.2 then some h.choose else none

theorem conSum_ok {P : Program} {f : FuncId} {C : List AV → AS → AV → AS → Prop} : SumOK P f (conSum P f C) := fun args s r s' h => by
  unfold conSum at h
  split at h
  · rename_i hx
    have := hx.choose_spec.1
    simp only [Option.some.injEq] at h
    rw [h] at this
    exact this
  · cases h

theorem conSum_some {P : Program} {f : FuncId} {C : List AV → AS → AV → AS → Prop} {args : List AV} {s : AS} {r : AV} {s' : AS} (h : Ev P f args s r s') (hc : C args s r s') :
    ∃ r₁ s₁, conSum P f C args s = some (r₁, s₁) ∧ C args s r₁ s₁ := by
  have hx : ∃ p : AV × AS, Ev P f args s p.1 p.2 ∧ C args s p.1 p.2 := ⟨(r, s'), h, hc⟩
  refine ⟨hx.choose.1, hx.choose.2, ?_, hx.choose_spec.2⟩
  unfold conSum
  rw [dif_pos hx]

end Go.Ai

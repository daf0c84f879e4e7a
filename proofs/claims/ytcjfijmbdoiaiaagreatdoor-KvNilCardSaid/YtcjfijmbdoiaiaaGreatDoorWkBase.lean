/- Words for the walks: numbers as bytes, bytes as cells, what a call leaves alone. -/
import Derived.Test.YtcjfijmbdoiaiaaGreatDoorRbAi32
import Derived.KernelRfl
set_option linter.unusedSimpArgs false
set_option linter.unusedVariables false
namespace Go.Ai

/-- The function f's text, read. -/
def FnIs (P : Program) (f : FuncId) (af : AFn) : Prop := goBody P f = true ∧ ∃ fn, P.funcs[f]? = some fn ∧ cfn P fn = some af

theorem FnIs.ev {P : Program} {f : FuncId} {af : AFn} (h : FnIs P f af) (hmix : P.follows .mixedOrders = true) {t : List (FuncId × ASum)} (ht : ∀ x ∈ t, SumOK P x.1 x.2) {N : Nat} {args : List AV} {s : AS} {r : AV} {s' : AS}
    (hr : s.WF → AV.los s.nx args → afn (scall t) N af args s = some (r, s')) : Ev P f args s r s' := by
  obtain ⟨h1, fn, h2, h3⟩ := h
  exact Ev.of_afn hmix (scall_ok t ht) h1 h2 h3 hr

/-- A pure function: from what its text shows. -/
theorem FnIs.pure {P : Program} {f : FuncId} {af : AFn} (h : FnIs P f af) (hmix : P.follows .mixedOrders = true) {t : List (FuncId × ASum)} (ht : ∀ x ∈ t, SumOK P x.1 x.2) {N : Nat} {args : List AV} {s : AS} {r : AV} (hlo : AV.los s.nx args → r.lo s.nx)
    (hr : s.WF → AV.los s.nx args → ∃ r' s', afn (scall t) N af args s = some (r', s') ∧ r' = r ∧ ∀ b, b < s.nx → s'.get b = s.get b) : Ev P f args s r s := by
  refine Ev.intro h.1 fun hw hl => ?_
  obtain ⟨r', s', h1, rfl, h3⟩ := hr hw hl
  exact (h.ev hmix ht fun _ _ => h1).pure (fun _ => h3) (fun hl _ => hlo hl)

/-- What was there is there as it was. -/
def Kept (s s' : AS) : Prop := s.nx ≤ s'.nx ∧ ∀ b, b < s.nx → s'.get b = s.get b

theorem Kept.refl (s : AS) : Kept s s := ⟨Nat.le_refl _, fun _ _ => rfl⟩
theorem Kept.trans {s s' s'' : AS} (h : Kept s s') (h' : Kept s' s'') : Kept s s'' := ⟨Nat.le_trans h.1 h'.1, fun b hb => (h'.2 b (Nat.lt_of_lt_of_le hb h.1)).trans (h.2 b hb)⟩
theorem Kept.new {s s' : AS} (h : Kept s s') (o : ABlk) : Kept s (s'.new o) := ⟨Nat.le_succ_of_le h.1, fun b hb => by rw [get_new_ne _ _ _ (by have := h.1; omega)]; exact h.2 b hb⟩
theorem Kept.put {s s' : AS} (h : Kept s s') {b : Nat} (hb : s.nx ≤ b) (o : ABlk) : Kept s (s'.put b o) := ⟨h.1, fun c hc => by rw [get_put_ne _ _ _ _ (by omega)]; exact h.2 c hc⟩
theorem Kept.kill {s s' : AS} (h : Kept s s') {b : Nat} (hb : s.nx ≤ b) : Kept s (s'.kill b) := ⟨h.1, fun c hc => by rw [get_kill_ne _ _ _ (by omega)]; exact h.2 c hc⟩

theorem PT.setF_setF {α : Type} (v v' : Option α) : ∀ (f : Nat) (t : PT α) (k : Nat), k < f → PT.setF f (PT.setF f t k v) k v' = PT.setF f t k v'
  | 0, _, _, h => absurd h (by omega)
  | f + 1, .leaf, k, h => by
    by_cases h0 : k = 0
    · subst h0; simp [PT.setF]
    · by_cases h1 : k % 2 = 1
      · simp only [PT.setF, h0, h1, if_false, if_true]
        rw [PT.setF_setF v v' f _ _ (by omega)]
      · simp only [PT.setF, h0, h1, if_false]
        rw [PT.setF_setF v v' f _ _ (by omega)]
  | f + 1, .node w l r, k, h => by
    by_cases h0 : k = 0
    · subst h0; simp [PT.setF]
    · by_cases h1 : k % 2 = 1
      · simp only [PT.setF, h0, h1, if_false, if_true]
        rw [PT.setF_setF v v' f _ _ (by omega)]
      · simp only [PT.setF, h0, h1, if_false]
        rw [PT.setF_setF v v' f _ _ (by omega)]

theorem put_put (s : AS) (b : Nat) (o o' : ABlk) : (s.put b o).put b o' = s.put b o' := by
  simp only [AS.put, PT.set]
  rw [PT.setF_setF _ _ _ _ _ (by omega)]
theorem new_put (s : AS) (o o' : ABlk) : (s.new o).put s.nx o' = s.new o' := by
  simp only [AS.put, AS.new, PT.set]
  rw [PT.setF_setF _ _ _ _ _ (by omega)]

/-- Bytes as cells. -/
def bcells (l : List UInt8) : List AV := l.map fun b => AV.int .u8 b.toNat

theorem bcells_len (l : List UInt8) : (bcells l).length = l.length := by simp [bcells]
theorem bcells_get (l : List UInt8) (i : Nat) : (bcells l)[i]? = (l[i]?).map fun b => AV.int .u8 b.toNat := by simp [bcells]
theorem bcells_set (l : List UInt8) (i : Nat) (b : UInt8) : (bcells l).set i (.int .u8 b.toNat) = bcells (l.set i b) := by simp [bcells, List.map_set]
theorem bcells_rep (n : Nat) : repX [.int .u8 0] n = bcells (List.replicate n 0) := by
  induction n with
  | zero => rfl
  | succ n ih => simp only [repX, ih, List.replicate_succ]; rfl
theorem bytesOf_bcells (l : List UInt8) : bytesOf (bcells l) = some l := bytesOf_map l

theorem wrap_u8_nat (m : Nat) : IntKind.u8.wrap (m : Int) = ((UInt8.ofNat m).toNat : Int) := by
  rw [IntKind.wrap_u8]
  simp [UInt8.toNat_ofNat']

/-- A number's last bytes, the greatest first. -/
def be : Nat → Nat → List UInt8
  | 0, _ => []
  | k + 1, n => be k (n / 256) ++ [UInt8.ofNat n]

theorem be_len : ∀ (k n : Nat), (be k n).length = k
  | 0, _ => rfl
  | k + 1, n => by simp [be, be_len k]

/-- The number of bytes. -/
def num : List UInt8 → Nat → Nat
  | [], n => n
  | b :: l, n => num l (n * 256 + b.toNat)

theorem num_append : ∀ (l m : List UInt8) (n : Nat), num (l ++ m) n = num m (num l n)
  | [], _, _ => rfl
  | b :: l, m, n => num_append l m _

theorem num_be : ∀ (k n : Nat), n < 256 ^ k → ∀ a, num (be k n) a = a * 256 ^ k + n
  | 0, n, h, a => by simp at h; subst h; simp [be, num]
  | k + 1, n, h, a => by
    rw [be, num_append, num_be k (n / 256) (by rw [Nat.pow_succ] at h; omega)]
    simp only [num, UInt8.toNat_ofNat']
    have e : 256 ^ (k + 1) = 256 ^ k * 256 := Nat.pow_succ _ _
    rw [e, ← Nat.mul_assoc]
    generalize a * 256 ^ k = z
    omega

theorem shr_lt (n k : Nat) (h : n < 256 ^ k) (hk : k ≤ 8) : (n : Int).fdiv (2 ^ min (8 * (k : Int)).toNat IntKind.u64.bits) = 0 := by
  have e1 : min (8 * (k : Int)).toNat IntKind.u64.bits = 8 * k := by
    have : (8 * (k : Int)).toNat = 8 * k := by omega
    rw [this]; show min (8 * k) 64 = _; omega
  have e2 : (2 : Int) ^ (8 * k) = ((256 ^ k : Nat) : Int) := by
    have : (256 : Nat) ^ k = 2 ^ (8 * k) := by rw [Nat.pow_mul]
    rw [this]
    exact (Int.natCast_pow 2 (8 * k)).symm
  rw [e1, e2, Int.fdiv_eq_ediv_of_nonneg _ (by omega), ← Int.natCast_ediv, Nat.div_eq_of_lt h]
  rfl

theorem shr8 (n : Nat) : (n : Int).fdiv (2 ^ min (8 : Int).toNat IntKind.u64.bits) = ((n / 256 : Nat) : Int) := by
  have e1 : (2 : Int) ^ min (8 : Int).toNat IntKind.u64.bits = ((256 : Nat) : Int) := by decide
  rw [e1, Int.fdiv_eq_ediv_of_nonneg _ (by omega), ← Int.natCast_ediv]

theorem wrap_u64_byte (b : UInt8) : IntKind.u64.wrap (b.toNat : Int) = b.toNat := wrap_u64 _ (by omega) (by have := b.toNat_lt; omega)
theorem wrap_u32_byte (b : UInt8) : IntKind.u32.wrap (b.toNat : Int) = b.toNat := wrap_u32 _ (by omega) (by have := b.toNat_lt; omega)
theorem wrap_i64_byte (b : UInt8) : IntKind.i64.wrap (b.toNat : Int) = b.toNat := wrap_i64 _ (by omega) (by have := b.toNat_lt; omega)
theorem wrap_u8_byte (b : UInt8) : IntKind.u8.wrap (b.toNat : Int) = b.toNat := wrap_u8 _ (by omega) (by have := b.toNat_lt; omega)

theorem or_byte (m : Nat) (b : UInt8) (h : m < 72057594037927936) : borK .u64 (IntKind.u64.wrap ((m : Int) * 2 ^ min 8 64)) (b.toNat : Int) = ((m * 256 + b.toNat : Nat) : Int) := by
  have hb := b.toNat_lt
  have e1 : (m : Int) * 2 ^ min 8 64 = ((m * 256 : Nat) : Int) := by
    have : (2 : Int) ^ min 8 64 = 256 := by decide
    rw [this]; omega
  rw [e1, wrap_u64 _ (by omega) (by omega)]
  have e2 : (BitVec.ofInt 64 ((m * 256 : Nat) : Int) ||| BitVec.ofInt 64 (b.toNat : Int)).toNat = m * 256 + b.toNat := by
    rw [BitVec.ofInt_natCast, BitVec.ofInt_natCast, BitVec.toNat_or, BitVec.toNat_ofNat, BitVec.toNat_ofNat, Nat.mod_eq_of_lt (by omega), Nat.mod_eq_of_lt (by omega)]
    have := Nat.shiftLeft_add_eq_or_of_lt (i := 8) (b := b.toNat) (by omega) m
    rw [Nat.shiftLeft_eq] at this
    exact this.symm
  show IntKind.u64.wrap ((BitVec.ofInt 64 ((m * 256 : Nat) : Int) ||| BitVec.ofInt 64 (b.toNat : Int)).toNat : Int) = _
  rw [e2, wrap_u64 _ (by omega) (by omega)]

theorem xor32 (a b : Nat) (ha : a < 4294967296) (hb : b < 4294967296) : bxorK .u32 (a : Int) (b : Int) = ((a ^^^ b : Nat) : Int) := by
  have e2 : (BitVec.ofInt 32 (a : Int) ^^^ BitVec.ofInt 32 (b : Int)).toNat = a ^^^ b := by
    rw [BitVec.ofInt_natCast, BitVec.ofInt_natCast, BitVec.toNat_xor, BitVec.toNat_ofNat, BitVec.toNat_ofNat, Nat.mod_eq_of_lt (by omega), Nat.mod_eq_of_lt (by omega)]
  have := Nat.xor_lt_two_pow (n := 32) ha hb
  show IntKind.u32.wrap ((BitVec.ofInt 32 (a : Int) ^^^ BitVec.ofInt 32 (b : Int)).toNat : Int) = _
  rw [e2, wrap_u32 _ (by omega) (by omega)]
theorem com32 (a : Nat) (ha : a < 4294967296) : bxorK .u32 (allK .u32) (a : Int) = ((4294967295 ^^^ a : Nat) : Int) := xor32 4294967295 a (by decide) ha
theorem and15 (a : Nat) (ha : a < 4294967296) : bandK .u32 (a : Int) 15 = ((a % 16 : Nat) : Int) := by
  have e2 : (BitVec.ofInt 32 (a : Int) &&& BitVec.ofInt 32 15).toNat = a % 16 := by
    rw [BitVec.ofInt_natCast, show (15 : Int) = ((15 : Nat) : Int) from rfl, BitVec.ofInt_natCast, BitVec.toNat_and, BitVec.toNat_ofNat, BitVec.toNat_ofNat, Nat.mod_eq_of_lt (by omega), Nat.mod_eq_of_lt (by omega)]
    exact Nat.and_two_pow_sub_one_eq_mod a 4
  show IntKind.u32.wrap ((BitVec.ofInt 32 (a : Int) &&& BitVec.ofInt 32 15).toNat : Int) = _
  rw [e2, wrap_u32 _ (by omega) (by omega)]
theorem shr4 (a : Nat) : (a : Int).fdiv (2 ^ min 4 32) = ((a / 16 : Nat) : Int) := by
  have e1 : (2 : Int) ^ min 4 32 = ((16 : Nat) : Int) := by decide
  rw [e1, Int.fdiv_eq_ediv_of_nonneg _ (by omega), ← Int.natCast_ediv]

theorem shr8' (n : Nat) : (n : Int).fdiv (2 ^ min 8 64) = ((n / 256 : Nat) : Int) := shr8 n

attribute [go_sem] put_put new_put decide_true decide_false wrap_u64_byte wrap_u32_byte wrap_i64_byte wrap_u8_byte wpK_nil wpK_blk wpK_opsnil wpX_nil wpX_ops wpX_code wpX_blk wpK_skip wpK_ret wpK_exit wpK_region wpK_seq wpK_block wpK_cond wpB_true wpB_false wpK_op wpK_opg wpG_tt wpG_ff wpG_tf wpG_ft wpV_some wpV_some' LQ_normal LQ_exit LQ_ret FQ_normal FQ_ret wpR_one wpR_two wpR_three wpR_nil at_put put_none init_cons init_nil ev_tmp ev_const omap_none omap_some List.map_cons List.map_nil List.nil_append List.cons_append List.append_nil get_put_same get_put_ne get_new_same get_new_ne get_kill_ne nx_put nx_new nx_kill loadsB_cells storesB_cells takeX_zero takeX_succ spliceX_z spliceX_z0 spliceX_s map_some List.drop_zero List.drop_succ_cons List.getElem?_cons_zero List.getElem?_cons_succ List.all_cons List.all_nil List.length_cons List.length_nil AV.one AV.cells Bool.and_self Bool.true_and Bool.and_true Bool.or_true Bool.true_or Bool.false_or Bool.or_false aoper_mov aoper_pick xo_pick_t xo_pick_f aoper_alloc aoper_box aoper_build xo_build_some aoper_buildSl xo_buildSl_some fillX_nil fillX_cons fillR_some fillV_ok aoper_load xo_load_ptr xo_l_agg xo_l_one aoper_store xo_store_ptr xo_s_some aoper_nilck xo_nilck_ptr aoper_ibin xo_add xo_sub xo_mul xo_quo xo_rem xo_eql xo_neq xo_lss xo_leq xo_gtr xo_geq xo_and xo_or xo_xor xo_shl xo_shr aoper_sbin xo_sadd xo_seql xo_sneq xo_slss xo_sleq xo_sgtr xo_sgeq aoper_bbin xo_beq xo_bne aoper_nileq xo_nileq_f xo_nileq_t nileqX_pp nileqX_pn nileqX_sp nileqX_sn aoper_aggeq xo_aggeq_agg aoper_un xo_not xo_neg xo_com aoper_conv xo_conv_int aoper_smov xo_smov_str aoper_s2b xo_s2b_str aoper_b2s xo_b2s_none xo_b2s_some xo_str_some aoper_mkI aoper_mkF aoper_mkM aoper_mkS xo_mkS_int aoper_slS xo_slS_lh xo_slS_l xo_slS_h aoper_slV xo_slV_lh xo_slV_l xo_slV_h slVB_cells slVR_true aoper_slA aoper_fadr xo_fadr_ptr aoper_fld xo_fld_t xo_fld_f xo_fldl_some xo_fldv_some aoper_iadrA xo_iadrA_ok aoper_iadrS xo_iadrS_ok aoper_ixS xo_ixS_ok xo_byte_some aoper_look xo_look_map lookR_hit lookR_miss mapB_map findE_some aoper_mupd xo_mupd_map mupdR_hit mupdR_miss aoper_extr xo_extr_tuple aoper_len xo_len_str xo_len_sl xo_len_mp xo_lenM_some aoper_lenC aoper_cap xo_cap_some xo_cap_none aoper_mnmx xo_fold_some foldX_nil foldX_max foldX_min aoper_del xo_del_map delR_hit delR_miss aoper_call aoper_callV xo_callV_func wrap_i64 wrap_u64 wrap_u32 wrap_u8 dec_lt_t dec_lt_f dec_le_t dec_le_f dec_eq_t dec_eq_f dec_ne_t dec_ne_f Bool.not_true Bool.not_false Bool.false_eq_true Int.toNat_natCast Nat.zero_add Nat.add_zero Nat.mul_one and_true true_and

attribute [go_sem] wpD_nil wpD_cons wpD_guard wpDG_tt wpDG_ff wpDG_tf wpDG_ft wpDA_some wpDP_some wpDR_some wpDW_some wpDk aalloc_alloc aalloc_box aalloc_buildSl aalloc_mkM aalloc_s2b aallocS2b_str absorb_nil absorb_cons get_bump nx_bump all_nil' rwOk_w rwOk_r sameV_some bitAt List.filter_cons List.filter_nil List.zip_cons_cons List.zip_nil_left List.zip_nil_right kind_mov kind_pick kind_build kind_nilck kind_nilckM kind_ibin kind_sbin kind_bbin kind_nileq kind_aggeq kind_un kind_conv kind_smov kind_mkI kind_mkF kind_slS kind_slA kind_fadr kind_fld kind_iadrA kind_iadrS kind_ixA kind_ixS kind_extr kind_lenC kind_mnmx kind_usd kind_alloc kind_box kind_buildSl kind_s2b kind_mkM kind_mkS kind_load kind_slV kind_cap kind_len kind_look kind_b2s kind_store kind_mupd kind_app kind_copy kind_clrM kind_clrS kind_del kind_ustr kind_call kind_callV kind_inv aop_load aop_slV aop_cap aop_len aop_look aop_b2s

end Go.Ai

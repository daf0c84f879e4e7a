/- Walks: numbers into bytes and back, the sum of a text, a step of the device. -/
import Derived.Test.YtcjfijmbdoiaiaaGreatDoorWkBase
set_option linter.unusedSimpArgs false
set_option linter.unusedVariables false
namespace Go.Ai

/- rollbook/field.Put -/
def A_field_Putr0 : List AOper := [
    ⟨(some 6), .mov (.const (.str [])), none⟩,
    ⟨(some 7), .mov (.const (.int .i64 0)), none⟩]
def A_field_Putr1 : List AOper := [
    ⟨(some 10), .mov (.tmp 2), none⟩,
    ⟨(some 11), .ibin .lss (.tmp 10) (.const (.int .i64 1)), none⟩,
    ⟨(some 12), .mov (.tmp 11), none⟩,
    ⟨(some 13), .mov (.tmp 2), (some (12, false))⟩,
    ⟨(some 14), .ibin .gtr (.tmp 13) (.const (.int .i64 8)), (some (12, false))⟩,
    ⟨(some 15), .pick (.tmp 12) (.const (.bool true)) (.tmp 14), none⟩,
    ⟨(some 16), .mov (.tmp 15), none⟩,
    ⟨(some 17), .mov (.tmp 2), (some (16, false))⟩,
    ⟨(some 18), .ibin .lss (.tmp 17) (.const (.int .i64 8)), (some (16, false))⟩,
    ⟨(some 19), .mov (.tmp 18), (some (16, false))⟩,
    ⟨(some 20), .mov (.tmp 1), (some (19, true))⟩,
    ⟨(some 21), .mov (.tmp 2), (some (19, true))⟩,
    ⟨(some 22), .ibin .mul (.const (.int .i64 8)) (.tmp 21), (some (19, true))⟩,
    ⟨(some 23), .ibin .shr (.tmp 20) (.tmp 22), (some (19, true))⟩,
    ⟨(some 24), .ibin .gtr (.tmp 23) (.const (.int .u64 0)), (some (19, true))⟩,
    ⟨(some 25), .pick (.tmp 19) (.tmp 24) (.const (.bool false)), (some (16, false))⟩,
    ⟨(some 26), .pick (.tmp 16) (.const (.bool true)) (.tmp 25), none⟩]
def A_field_Putr2 : List AOper := [
    ⟨(some 6), .mov (.const (.str [])), none⟩,
    ⟨(some 7), .mov (.const (.int .i64 1)), none⟩]
def A_field_Putr3 : List AOper := [
    ⟨(some 27), .mov (.tmp 2), none⟩,
    ⟨(some 28), .mkS [.int .u8 0] 1 1 (.tmp 27) (.tmp 27), none⟩,
    ⟨(some 8), .mov (.tmp 28), none⟩]
def A_field_Putr4 : List AOper := [
    ⟨(some 29), .mov (.tmp 2), none⟩,
    ⟨(some 30), .ibin .sub (.tmp 29) (.const (.int .i64 1)), none⟩,
    ⟨(some 9), .mov (.tmp 30), none⟩]
def A_field_Putr5 : List AOper := [
    ⟨(some 31), .mov (.tmp 9), none⟩,
    ⟨(some 32), .ibin .geq (.tmp 31) (.const (.int .i64 0)), none⟩]
def A_field_Putr6 : List AOper := [
    ⟨(some 35), .mov (.tmp 8), none⟩,
    ⟨(some 36), .mov (.tmp 9), none⟩,
    ⟨(some 37), .mov (.tmp 1), none⟩,
    ⟨(some 38), .conv .u8 (.tmp 37), none⟩,
    ⟨(some 39), .iadrS 1 (.tmp 35) (.tmp 36), none⟩,
    ⟨none, .store 1 (.tmp 39) (.tmp 38), none⟩]
def A_field_Putr7 : List AOper := [
    ⟨(some 40), .mov (.tmp 1), none⟩,
    ⟨(some 41), .ibin .shr (.tmp 40) (.const (.int .u64 8)), none⟩,
    ⟨(some 1), .mov (.tmp 41), none⟩]
def A_field_Putc8 : AC := (.block 1 (.seq (.region A_field_Putr6) (.region A_field_Putr7)))
def A_field_Putr9 : List AOper := [
    ⟨(some 33), .mov (.tmp 9), none⟩,
    ⟨(some 34), .ibin .sub (.tmp 33) (.const (.int .i64 1)), none⟩,
    ⟨(some 9), .mov (.tmp 34), none⟩]
def A_field_Putl10 : AC := (.seq (.seq (.region A_field_Putr5) (.cond (.tmp 32) .skip (.exit 0))) (.seq A_field_Putc8 (.region A_field_Putr9)))
def A_field_Putc11 : AC := (.block 0 (.loop A_field_Putl10))
def A_field_Putr12 : List AOper := [
    ⟨(some 42), .mov (.tmp 0), none⟩,
    ⟨(some 43), .mov (.tmp 8), none⟩,
    ⟨(some 44), .b2s (.tmp 43), none⟩,
    ⟨(some 45), .sbin .add (.tmp 42) (.tmp 44), none⟩,
    ⟨(some 6), .mov (.tmp 45), none⟩,
    ⟨(some 7), .mov (.const (.int .i64 0)), none⟩]
def A_field_Put : AFn := ⟨46, 3, [.tmp 6, .tmp 7], (.seq (.region A_field_Putr0) (.seq (.seq (.region A_field_Putr1) (.cond (.tmp 26) (.seq (.region A_field_Putr2) .ret) .skip)) (.seq (.region A_field_Putr3) (.seq (.seq (.region A_field_Putr4) A_field_Putc11) (.seq (.region A_field_Putr12) .ret)))))⟩
/- rollbook/field.Take -/
def A_field_Taker0 : List AOper := [
    ⟨(some 6), .mov (.const (.int .u64 0)), none⟩,
    ⟨(some 7), .mov (.const (.int .i64 0)), none⟩]
def A_field_Taker1 : List AOper := [
    ⟨(some 12), .mov (.tmp 2), none⟩,
    ⟨(some 13), .ibin .lss (.tmp 12) (.const (.int .i64 1)), none⟩,
    ⟨(some 14), .mov (.tmp 13), none⟩,
    ⟨(some 15), .mov (.tmp 2), (some (14, false))⟩,
    ⟨(some 16), .ibin .gtr (.tmp 15) (.const (.int .i64 8)), (some (14, false))⟩,
    ⟨(some 17), .pick (.tmp 14) (.const (.bool true)) (.tmp 16), none⟩,
    ⟨(some 18), .mov (.tmp 17), none⟩,
    ⟨(some 19), .mov (.tmp 1), (some (18, false))⟩,
    ⟨(some 20), .ibin .lss (.tmp 19) (.const (.int .i64 0)), (some (18, false))⟩,
    ⟨(some 21), .pick (.tmp 18) (.const (.bool true)) (.tmp 20), none⟩,
    ⟨(some 11), .mov (.tmp 21), none⟩]
def A_field_Taker2 : List AOper := [
    ⟨(some 6), .mov (.const (.int .u64 0)), none⟩,
    ⟨(some 7), .mov (.const (.int .i64 1)), none⟩]
def A_field_Taker3 : List AOper := [
    ⟨(some 23), .mov (.tmp 1), none⟩,
    ⟨(some 24), .mov (.tmp 0), none⟩,
    ⟨(some 25), .len .str (.tmp 24), none⟩,
    ⟨(some 26), .ibin .gtr (.tmp 23) (.tmp 25), none⟩,
    ⟨(some 27), .mov (.tmp 26), none⟩,
    ⟨(some 28), .mov (.tmp 0), (some (27, false))⟩,
    ⟨(some 29), .len .str (.tmp 28), (some (27, false))⟩,
    ⟨(some 30), .mov (.tmp 1), (some (27, false))⟩,
    ⟨(some 31), .ibin .sub (.tmp 29) (.tmp 30), (some (27, false))⟩,
    ⟨(some 32), .mov (.tmp 2), (some (27, false))⟩,
    ⟨(some 33), .ibin .lss (.tmp 31) (.tmp 32), (some (27, false))⟩,
    ⟨(some 34), .pick (.tmp 27) (.const (.bool true)) (.tmp 33), none⟩,
    ⟨(some 22), .mov (.tmp 34), none⟩]
def A_field_Taker4 : List AOper := [
    ⟨(some 6), .mov (.const (.int .u64 0)), none⟩,
    ⟨(some 7), .mov (.const (.int .i64 3)), none⟩]
def A_field_Takec5 : AC := (.block 0 (.seq (.region A_field_Taker1) (.cond (.tmp 11) (.seq (.region A_field_Taker2) .ret) (.seq (.region A_field_Taker3) (.cond (.tmp 22) (.seq (.region A_field_Taker4) .ret) .skip)))))
def A_field_Taker6 : List AOper := [
    ⟨(some 8), .mov (.const (.int .u64 0)), none⟩]
def A_field_Taker7 : List AOper := [
    ⟨(some 35), .mov (.tmp 0), none⟩,
    ⟨(some 36), .mov (.tmp 1), none⟩,
    ⟨(some 37), .mov (.tmp 1), none⟩,
    ⟨(some 38), .mov (.tmp 2), none⟩,
    ⟨(some 39), .ibin .add (.tmp 37) (.tmp 38), none⟩,
    ⟨(some 40), .slS (.tmp 35) (some (.tmp 36)) (some (.tmp 39)), none⟩,
    ⟨(some 41), .s2b (.tmp 40), none⟩,
    ⟨(some 42), .len .sl (.tmp 41), none⟩,
    ⟨(some 43), .mov (.const (.int .i64 0)), none⟩]
def A_field_Taker8 : List AOper := [
    ⟨(some 44), .ibin .lss (.tmp 43) (.tmp 42), none⟩]
def A_field_Taker9 : List AOper := [
    ⟨(some 45), .iadrS 1 (.tmp 41) (.tmp 43), none⟩,
    ⟨(some 46), .load false 1 (.tmp 45), none⟩,
    ⟨(some 10), .mov (.tmp 46), none⟩]
def A_field_Taker10 : List AOper := [
    ⟨(some 47), .mov (.tmp 8), none⟩,
    ⟨(some 48), .ibin .shl (.tmp 47) (.const (.int .u64 8)), none⟩,
    ⟨(some 49), .mov (.tmp 10), none⟩,
    ⟨(some 50), .conv .u64 (.tmp 49), none⟩,
    ⟨(some 51), .ibin .or (.tmp 48) (.tmp 50), none⟩,
    ⟨(some 8), .mov (.tmp 51), none⟩]
def A_field_Takec11 : AC := (.block 2 (.seq (.region A_field_Taker9) (.region A_field_Taker10)))
def A_field_Taker12 : List AOper := [
    ⟨(some 52), .ibin .add (.tmp 43) (.const (.int .i64 1)), none⟩,
    ⟨(some 43), .mov (.tmp 52), none⟩]
def A_field_Takel13 : AC := (.seq (.region A_field_Taker8) (.seq (.cond (.tmp 44) .skip (.exit 1)) (.seq A_field_Takec11 (.region A_field_Taker12))))
def A_field_Takec14 : AC := (.block 1 (.loop A_field_Takel13))
def A_field_Taker15 : List AOper := [
    ⟨(some 53), .mov (.tmp 8), none⟩,
    ⟨(some 6), .mov (.tmp 53), none⟩,
    ⟨(some 7), .mov (.const (.int .i64 0)), none⟩]
def A_field_Take : AFn := ⟨54, 3, [.tmp 6, .tmp 7], (.seq (.region A_field_Taker0) (.seq A_field_Takec5 (.seq (.region A_field_Taker6) (.seq (.seq (.region A_field_Taker7) A_field_Takec14) (.seq (.region A_field_Taker15) .ret)))))⟩
/- rollbook/crc.On -/
def A_crc_Onr0 : List AOper := [
    ⟨(some 4), .mov (.const (.int .u32 0)), none⟩]
def A_crc_Onr1 : List AOper := [
    ⟨(some 7), .mov (.tmp 0), none⟩,
    ⟨(some 8), .un .xor (.tmp 7), none⟩,
    ⟨(some 5), .mov (.tmp 8), none⟩]
def A_crc_Onr2 : List AOper := [
    ⟨(some 9), .mov (.tmp 1), none⟩,
    ⟨(some 10), .len .str (.tmp 9), none⟩,
    ⟨(some 11), .mov (.const (.int .i64 0)), none⟩]
def A_crc_Onr3 : List AOper := [
    ⟨(some 12), .ibin .lss (.tmp 11) (.tmp 10), none⟩]
def A_crc_Onr4 : List AOper := [
    ⟨(some 13), .mov (.tmp 11), none⟩,
    ⟨(some 6), .mov (.tmp 13), none⟩]
def A_crc_Onr5 : List AOper := [
    ⟨(some 14), .mov (.tmp 5), none⟩,
    ⟨(some 15), .mov (.tmp 1), none⟩,
    ⟨(some 16), .mov (.tmp 6), none⟩,
    ⟨(some 17), .ixS (.tmp 15) (.tmp 16), none⟩,
    ⟨(some 18), .conv .u32 (.tmp 17), none⟩,
    ⟨(some 19), .ibin .xor (.tmp 14) (.tmp 18), none⟩,
    ⟨(some 5), .mov (.tmp 19), none⟩]
def A_crc_Onr6 : List AOper := [
    ⟨(some 20), .mov (.tmp 5), none⟩,
    ⟨(some 21), .ibin .shr (.tmp 20) (.const (.int .u64 4)), none⟩,
    ⟨(some 22), .mov (.tmp 5), none⟩,
    ⟨(some 23), .ibin .and (.tmp 22) (.const (.int .u32 15)), none⟩,
    ⟨(some 24), .iadrA 16 1 (.const (.ptr (some (0, 0)))) (.tmp 23), none⟩,
    ⟨(some 25), .load false 1 (.tmp 24), none⟩,
    ⟨(some 26), .ibin .xor (.tmp 21) (.tmp 25), none⟩,
    ⟨(some 5), .mov (.tmp 26), none⟩]
def A_crc_Onr7 : List AOper := [
    ⟨(some 27), .mov (.tmp 5), none⟩,
    ⟨(some 28), .ibin .shr (.tmp 27) (.const (.int .u64 4)), none⟩,
    ⟨(some 29), .mov (.tmp 5), none⟩,
    ⟨(some 30), .ibin .and (.tmp 29) (.const (.int .u32 15)), none⟩,
    ⟨(some 31), .iadrA 16 1 (.const (.ptr (some (0, 0)))) (.tmp 30), none⟩,
    ⟨(some 32), .load false 1 (.tmp 31), none⟩,
    ⟨(some 33), .ibin .xor (.tmp 28) (.tmp 32), none⟩,
    ⟨(some 5), .mov (.tmp 33), none⟩]
def A_crc_Onc8 : AC := (.block 1 (.seq (.region A_crc_Onr4) (.seq (.region A_crc_Onr5) (.seq (.region A_crc_Onr6) (.region A_crc_Onr7)))))
def A_crc_Onr9 : List AOper := [
    ⟨(some 34), .ibin .add (.tmp 11) (.const (.int .i64 1)), none⟩,
    ⟨(some 11), .mov (.tmp 34), none⟩]
def A_crc_Onl10 : AC := (.seq (.region A_crc_Onr3) (.seq (.cond (.tmp 12) .skip (.exit 0)) (.seq A_crc_Onc8 (.region A_crc_Onr9))))
def A_crc_Onc11 : AC := (.block 0 (.loop A_crc_Onl10))
def A_crc_Onr12 : List AOper := [
    ⟨(some 35), .mov (.tmp 5), none⟩,
    ⟨(some 36), .un .xor (.tmp 35), none⟩,
    ⟨(some 4), .mov (.tmp 36), none⟩]
def A_crc_On : AFn := ⟨37, 2, [.tmp 4], (.seq (.region A_crc_Onr0) (.seq (.region A_crc_Onr1) (.seq (.seq (.region A_crc_Onr2) A_crc_Onc11) (.seq (.region A_crc_Onr12) .ret))))⟩
/- (*rollbook/dev.Dev).step -/
def A_dev_Dev_stepr0 : List AOper := [
    ⟨(some 2), .mov (.const (.bool false)), none⟩]
def A_dev_Dev_stepr1 : List AOper := [
    ⟨(some 3), .mov (.tmp 0), none⟩,
    ⟨(some 4), .nilck (.tmp 3), none⟩,
    ⟨(some 5), .fadr 2 (.tmp 4), none⟩,
    ⟨(some 6), .load false 1 (.tmp 5), none⟩]
def A_dev_Dev_stepr2 : List AOper := [
    ⟨(some 2), .mov (.const (.bool false)), none⟩]
def A_dev_Dev_stepr3 : List AOper := [
    ⟨(some 7), .mov (.tmp 0), none⟩,
    ⟨(some 8), .nilck (.tmp 7), none⟩,
    ⟨(some 9), .fadr 4 (.tmp 8), none⟩,
    ⟨(some 10), .load false 1 (.tmp 9), none⟩,
    ⟨(some 11), .ibin .add (.tmp 10) (.const (.int .i64 1)), none⟩,
    ⟨(some 12), .nilck (.tmp 7), none⟩,
    ⟨(some 13), .fadr 4 (.tmp 12), none⟩,
    ⟨none, .store 1 (.tmp 13) (.tmp 11), none⟩]
def A_dev_Dev_stepr4 : List AOper := [
    ⟨(some 14), .mov (.tmp 0), none⟩,
    ⟨(some 15), .nilck (.tmp 14), none⟩,
    ⟨(some 16), .fadr 3 (.tmp 15), none⟩,
    ⟨(some 17), .load false 1 (.tmp 16), none⟩,
    ⟨(some 18), .ibin .eql (.tmp 17) (.const (.int .i64 1)), none⟩]
def A_dev_Dev_stepr5 : List AOper := [
    ⟨(some 19), .mov (.tmp 0), none⟩,
    ⟨(some 20), .nilck (.tmp 19), none⟩,
    ⟨(some 21), .fadr 2 (.tmp 20), none⟩,
    ⟨none, .store 1 (.tmp 21) (.const (.bool true)), none⟩]
def A_dev_Dev_stepr6 : List AOper := [
    ⟨(some 22), .mov (.tmp 0), none⟩,
    ⟨(some 23), .mov (.tmp 0), none⟩,
    ⟨(some 24), .nilck (.tmp 23), none⟩,
    ⟨(some 25), .fadr 3 (.tmp 24), none⟩,
    ⟨(some 26), .load false 1 (.tmp 25), none⟩,
    ⟨(some 27), .ibin .sub (.tmp 26) (.const (.int .i64 1)), none⟩,
    ⟨(some 28), .mnmx true (.const (.int .i64 0)) [(.tmp 27)], none⟩,
    ⟨(some 29), .nilck (.tmp 22), none⟩,
    ⟨(some 30), .fadr 3 (.tmp 29), none⟩,
    ⟨none, .store 1 (.tmp 30) (.tmp 28), none⟩]
def A_dev_Dev_stepr7 : List AOper := [
    ⟨(some 31), .mov (.tmp 0), none⟩,
    ⟨(some 32), .nilck (.tmp 31), none⟩,
    ⟨(some 33), .fadr 2 (.tmp 32), none⟩,
    ⟨(some 34), .load false 1 (.tmp 33), none⟩,
    ⟨(some 35), .un .not (.tmp 34), none⟩,
    ⟨(some 2), .mov (.tmp 35), none⟩]
def A_dev_Dev_step : AFn := ⟨36, 1, [.tmp 2], (.seq (.region A_dev_Dev_stepr0) (.seq (.seq (.region A_dev_Dev_stepr1) (.cond (.tmp 6) (.seq (.region A_dev_Dev_stepr2) .ret) .skip)) (.seq (.region A_dev_Dev_stepr3) (.seq (.seq (.region A_dev_Dev_stepr4) (.cond (.tmp 18) (.region A_dev_Dev_stepr5) .skip)) (.seq (.region A_dev_Dev_stepr6) (.seq (.region A_dev_Dev_stepr7) .ret))))))⟩

/-! ## field.Put -/

def sumPut : ASum
  | [.str t, .int .u64 n, .int .i64 k], s =>
    if 1 ≤ k ∧ k ≤ 8 ∧ 0 ≤ n ∧ n < 18446744073709551616 ∧ n.toNat < 256 ^ k.toNat ∧ t.length < 1099511627776 then some (.tuple [.str (t ++ be k.toNat n.toNat), .int .i64 0], s) else none
  | _, _ => none

def PutI (t : List UInt8) (n k : Nat) (s : AS) (x : Nat × Nat × List UInt8) (tm : Tm) (s' : AS) : Prop :=
  tm.at 0 = .str t ∧ tm.at 8 = .slice (some (s.nx, 0)) k k ∧ tm.at 9 = .int .i64 ((x.1 : Int) - 1) ∧ tm.at 1 = .int .u64 (x.2.1 : Nat) ∧ s'.get s.nx = some (.cells (bcells (List.replicate x.1 0 ++ x.2.2)) 1 true false none) ∧ x.1 + x.2.2.length = k ∧
    be x.1 x.2.1 ++ x.2.2 = be k n ∧ Kept s s' ∧ s.nx < s'.nx ∧ x.2.1 < 18446744073709551616
def PutE (t : List UInt8) (n k : Nat) (s : AS) (e : AE) (tm : Tm) (s' : AS) : Prop :=
  e = .exit 0 ∧ tm.at 0 = .str t ∧ tm.at 8 = .slice (some (s.nx, 0)) k k ∧ s'.get s.nx = some (.cells (bcells (be k n)) 1 true false none) ∧ Kept s s'

theorem put_body (t : List UInt8) (n k : Nat) (s : AS) (h2 : k ≤ 8) (x : Nat × Nat × List UInt8) (tm : Tm) (s' : AS) (hI : PutI t n k s x tm s') (N : Nat) : wpK (scall []) N [.code A_field_Putl10] tm s' (LQ (PutI t n k s) (fun x => x.1) x (PutE t n k s)) := by
  obtain ⟨j, m, l⟩ := x
  obtain ⟨h0, h8, h9, h1, hg, hl, hb, hk, hnx, hm⟩ := hI
  simp only at h0 h8 h9 h1 hg hl hb hk hnx hm
  cases j with
  | zero =>
    have e9 : ((0 : Nat) : Int) - 1 = -1 := rfl
    rw [e9] at h9
    simp (disch := omega) only [go_sem, Nat.reduceEqDiff, Nat.reduceAdd, Nat.reduceMul, Nat.reduceSub, Nat.reducePow, Nat.reduceDiv, Nat.reduceMod, reduceIte, reduceCtorEq, Int.reduceToNat, A_field_Putl10, A_field_Putr5, A_field_Putc8, A_field_Putr9, A_field_Putr6, A_field_Putr7, h0, h8, h9, h1]
    simp only [be, List.nil_append] at hb
    simp only [List.replicate, List.nil_append, hb] at hg
    exact ⟨rfl, by simp only [at_put, h0]; rfl, by simp only [at_put, h8]; rfl, hg, hk⟩
  | succ j =>
    have e9 : ((j + 1 : Nat) : Int) - 1 = j := by omega
    rw [e9] at h9
    have hj : j < k := by omega
    have hlen : j < (bcells (List.replicate (j + 1) 0 ++ l)).length := by rw [bcells_len]; simp; omega
    simp (disch := first | omega | (simp only [go_sem, Nat.reduceEqDiff, Nat.reduceAdd, Nat.reduceMul, Nat.reduceSub, Nat.reducePow, Nat.reduceDiv, Nat.reduceMod, reduceIte, reduceCtorEq, Int.reduceToNat]; done)) only [go_sem, Nat.reduceEqDiff, Nat.reduceAdd, Nat.reduceMul, Nat.reduceSub, Nat.reducePow, Nat.reduceDiv, Nat.reduceMod, reduceIte, reduceCtorEq, Int.reduceToNat, A_field_Putl10, A_field_Putr5, A_field_Putc8, A_field_Putr9, A_field_Putr6, A_field_Putr7, h0, h8, h9, h1, hg, wrap_u8_nat, spliceX_one _ _ _ hlen, shr8']
    refine ⟨(j, m / 256, UInt8.ofNat m :: l), Nat.lt_succ_self j, ?_⟩
    have hset : (List.replicate (j + 1) (0 : UInt8) ++ l).set j (UInt8.ofNat m) = List.replicate j 0 ++ UInt8.ofNat m :: l := by
      rw [List.replicate_succ', List.append_assoc, List.set_append_right _ _ (by simp)]
      simp
    rw [bcells_set, hset]
    refine ⟨?_, ?_, ?_, ?_, ?_, ?_, ?_, hk.put (Nat.le_refl _) _, hnx, ?_⟩
    · simp only [go_sem, Nat.reduceEqDiff, Nat.reduceAdd, Nat.reduceMul, Nat.reduceSub, Nat.reducePow, Nat.reduceDiv, Nat.reduceMod, reduceIte, reduceCtorEq, Int.reduceToNat, h0]
    · simp only [go_sem, Nat.reduceEqDiff, Nat.reduceAdd, Nat.reduceMul, Nat.reduceSub, Nat.reducePow, Nat.reduceDiv, Nat.reduceMod, reduceIte, reduceCtorEq, Int.reduceToNat, h8]
    · simp only [go_sem, Nat.reduceEqDiff, Nat.reduceAdd, Nat.reduceMul, Nat.reduceSub, Nat.reducePow, Nat.reduceDiv, Nat.reduceMod, reduceIte, reduceCtorEq, Int.reduceToNat]
    · simp only [go_sem, Nat.reduceEqDiff, Nat.reduceAdd, Nat.reduceMul, Nat.reduceSub, Nat.reducePow, Nat.reduceDiv, Nat.reduceMod, reduceIte, reduceCtorEq, Int.reduceToNat]
    · simp only [go_sem, Nat.reduceEqDiff, Nat.reduceAdd, Nat.reduceMul, Nat.reduceSub, Nat.reducePow, Nat.reduceDiv, Nat.reduceMod, reduceIte, reduceCtorEq, Int.reduceToNat]
    · simp only [List.length_cons]; omega
    · simp only [be, List.append_assoc, List.cons_append, List.nil_append] at hb ⊢; exact hb
    · simp only; omega

theorem put_walk (t : List UInt8) (n k : Nat) (s : AS) (h1 : 1 ≤ k) (h2 : k ≤ 8) (hn : n < 256 ^ k) (hn2 : n < 18446744073709551616) (ht : t.length < 1099511627776) :
    ∃ r s', afn (scall []) 100 A_field_Put [.str t, .int .u64 (n : Nat), .int .i64 (k : Nat)] s = some (r, s') ∧ (r = .tuple [.str (t ++ be k n), .int .i64 0] ∧ ∀ b, b < s.nx → s'.get b = s.get b) := by
  refine afn_of_wpK (Nat.le_of_ble_eq_true rfl) ?_
  have hsh := shr_lt n k hn h2
  have hsh' : (n : Int).fdiv (2 ^ min (8 * (k : Int)).toNat 64) = 0 := hsh
  by_cases hk : k < 8
  all_goals
    simp (disch := omega) only [go_sem, Nat.reduceEqDiff, Nat.reduceAdd, Nat.reduceMul, Nat.reduceSub, Nat.reducePow, Nat.reduceDiv, Nat.reduceMod, reduceIte, reduceCtorEq, Int.reduceToNat, A_field_Put, A_field_Putr0, A_field_Putr1, A_field_Putr2, A_field_Putr3, A_field_Putr4, A_field_Putc11, A_field_Putr12, hsh']
    refine wpK_loop _ (PutE t n k s) (PutI t n k s) (fun x => x.1) (fun x tm s' hI _ => put_body t n k s h2 x tm s' hI _) (k, n, []) ?_ (by simp only; omega) ?_ ?_
    · refine ⟨?_, ?_, ?_, ?_, ?_, ?_, ?_, (Kept.refl s).new _, Nat.lt_succ_self _, hn2⟩
      · simp only [go_sem, Nat.reduceEqDiff, Nat.reduceAdd, Nat.reduceMul, Nat.reduceSub, Nat.reducePow, Nat.reduceDiv, Nat.reduceMod, reduceIte, reduceCtorEq, Int.reduceToNat]
      · simp only [go_sem, Nat.reduceEqDiff, Nat.reduceAdd, Nat.reduceMul, Nat.reduceSub, Nat.reducePow, Nat.reduceDiv, Nat.reduceMod, reduceIte, reduceCtorEq, Int.reduceToNat]
      · simp only [go_sem, Nat.reduceEqDiff, Nat.reduceAdd, Nat.reduceMul, Nat.reduceSub, Nat.reducePow, Nat.reduceDiv, Nat.reduceMod, reduceIte, reduceCtorEq, Int.reduceToNat]
      · simp only [go_sem, Nat.reduceEqDiff, Nat.reduceAdd, Nat.reduceMul, Nat.reduceSub, Nat.reducePow, Nat.reduceDiv, Nat.reduceMod, reduceIte, reduceCtorEq, Int.reduceToNat]
      · rw [get_new_same, bcells_rep, List.append_nil]
      · simp
      · simp
    · rintro id tm s' ⟨he, h0, h8, hg, hk⟩
      cases he
      have hl : takeX k (bcells (be k n)) = some (bcells (be k n)) := by rw [takeX_of (by rw [bcells_len, be_len]; exact Nat.le_refl _), List.take_of_length_le (by rw [bcells_len, be_len]; exact Nat.le_refl _)]
      have hbl := be_len k n
      simp (disch := omega) only [go_sem, Nat.reduceEqDiff, Nat.reduceAdd, Nat.reduceMul, Nat.reduceSub, Nat.reducePow, Nat.reduceDiv, Nat.reduceMod, reduceIte, reduceCtorEq, Int.reduceToNat, A_field_Put, A_field_Putr0, A_field_Putr1, A_field_Putr2, A_field_Putr3, A_field_Putr4, A_field_Putc11, A_field_Putr12, h0, h8, hg, hl, Option.bind_some, bytesOf_bcells, hbl]
      exact hk.2
    · rintro tm s' ⟨he, _⟩
      cases he

theorem put_ok {P : Program} {f : FuncId} (hf : FnIs P f A_field_Put) (hmix : P.follows .mixedOrders = true) : SumOK P f sumPut := by
  intro args s r s' hs
  unfold sumPut at hs
  split at hs
  · rename_i t n k
    split at hs
    · rename_i hc
      obtain ⟨h1, h2, h3, h4, h5, h6⟩ := hc
      cases hs
      obtain ⟨k, rfl⟩ : ∃ m : Nat, k = m := ⟨k.toNat, by omega⟩
      obtain ⟨n, rfl⟩ : ∃ m : Nat, n = m := ⟨n.toNat, by omega⟩
      simp only [Int.toNat_natCast] at h5 ⊢
      exact hf.pure hmix (t := []) (by simp) (fun _ => ⟨trivial, trivial, trivial⟩) fun _ _ => by
        obtain ⟨r, s', e1, e2, e3⟩ := put_walk t n k s (by omega) (by omega) h5 (by omega) h6
        exact ⟨r, s', e1, e2, e3⟩
    · cases hs
  · cases hs

/-! ## field.Take -/

def sumTake : ASum
  | [.str t, .int .i64 a, .int .i64 k], s =>
    if 1 ≤ k ∧ k ≤ 8 ∧ 0 ≤ a ∧ a < 4611686018427387904 ∧ t.length < 1099511627776 then
      if a.toNat + k.toNat ≤ t.length then some (.tuple [.int .u64 (num ((t.drop a.toNat).take k.toNat) 0), .int .i64 0], s) else some (.tuple [.int .u64 0, .int .i64 3], s)
    else none
  | _, _ => none

def TakeI (l : List UInt8) (s : AS) (x : Nat) (tm : Tm) (s' : AS) : Prop :=
  x ≤ l.length ∧ tm.at 41 = .slice (some (s.nx, 0)) l.length l.length ∧ tm.at 42 = .int .i64 l.length ∧ tm.at 43 = .int .i64 ((l.length - x : Nat) : Int) ∧ tm.at 8 = .int .u64 (num (l.take (l.length - x)) 0 : Nat) ∧
    s'.get s.nx = some (.cells (bcells l) 1 false false none) ∧ Kept s s'
def TakeE (l : List UInt8) (s : AS) (e : AE) (tm : Tm) (s' : AS) : Prop :=
  e = .exit 1 ∧ tm.at 8 = .int .u64 (num l 0 : Nat) ∧ Kept s s'

theorem num_lt : ∀ (l : List UInt8) (a : Nat), num l a < (a + 1) * 256 ^ l.length
  | [], a => by simp [num]
  | b :: l, a => by
    have h := num_lt l (a * 256 + b.toNat)
    have hb := b.toNat_lt
    simp only [num, List.length_cons, Nat.pow_succ]
    refine Nat.lt_of_lt_of_le h ?_
    rw [Nat.mul_comm (256 ^ l.length) 256, ← Nat.mul_assoc]
    exact Nat.mul_le_mul_right _ (by omega)

theorem take_body (l : List UInt8) (s : AS) (hl : l.length ≤ 8) (x : Nat) (tm : Tm) (s' : AS) (hI : TakeI l s x tm s') (N : Nat) : wpK (scall []) N [.code A_field_Takel13] tm s' (LQ (TakeI l s) (fun x => x) x (TakeE l s)) := by
  obtain ⟨hx, h41, h42, h43, h8, hg, hk⟩ := hI
  cases x with
  | zero =>
    simp (disch := first | omega | (simp only [go_sem, Nat.reduceEqDiff, Nat.reduceAdd, Nat.reduceMul, Nat.reduceSub, Nat.reducePow, Nat.reduceDiv, Nat.reduceMod, reduceIte, reduceCtorEq, Int.reduceToNat]; done)) only [go_sem, Nat.reduceEqDiff, Nat.reduceAdd, Nat.reduceMul, Nat.reduceSub, Nat.reducePow, Nat.reduceDiv, Nat.reduceMod, reduceIte, reduceCtorEq, Int.reduceToNat, A_field_Takel13, A_field_Taker8, A_field_Takec11, A_field_Taker12, A_field_Taker9, A_field_Taker10, h41, h42, h43, h8]
    exact ⟨rfl, by simp only [go_sem, Nat.reduceEqDiff, Nat.reduceAdd, Nat.reduceMul, Nat.reduceSub, Nat.reducePow, Nat.reduceDiv, Nat.reduceMod, reduceIte, reduceCtorEq, Int.reduceToNat]; rw [h8, Nat.sub_zero, List.take_length], hk⟩
  | succ x =>
    have hlt : l.length - (x + 1) < l.length := by omega
    have hget : (bcells l)[l.length - (x + 1)]? = some (.int .u8 (l[l.length - (x + 1)].toNat)) := by rw [bcells_get, List.getElem?_eq_getElem hlt]; rfl
    have hm : num (List.take (l.length - (x + 1)) l) 0 < 72057594037927936 := by
      have := num_lt (List.take (l.length - (x + 1)) l) 0
      rw [List.length_take] at this
      refine Nat.lt_of_lt_of_le this ?_
      have : 256 ^ min (l.length - (x + 1)) l.length ≤ 256 ^ 7 := Nat.pow_le_pow_right (by omega) (by omega)
      omega
    have htk : num (List.take (l.length - x) l) 0 = num (List.take (l.length - (x + 1)) l) 0 * 256 + l[l.length - (x + 1)].toNat := by
      have : l.length - x = l.length - (x + 1) + 1 := by omega
      rw [this, List.take_succ_eq_append_getElem hlt, num_append]
      rfl
    simp (disch := first | omega | (simp only [go_sem, Nat.reduceEqDiff, Nat.reduceAdd, Nat.reduceMul, Nat.reduceSub, Nat.reducePow, Nat.reduceDiv, Nat.reduceMod, reduceIte, reduceCtorEq, Int.reduceToNat]; done)) only [go_sem, Nat.reduceEqDiff, Nat.reduceAdd, Nat.reduceMul, Nat.reduceSub, Nat.reducePow, Nat.reduceDiv, Nat.reduceMod, reduceIte, reduceCtorEq, Int.reduceToNat, A_field_Takel13, A_field_Taker8, A_field_Takec11, A_field_Taker12, A_field_Taker9, A_field_Taker10, h41, h42, h43, h8, hg, takeX_one _ _ _ hget, or_byte _ _ hm]
    refine ⟨x, Nat.lt_succ_self x, by omega, ?_, ?_, ?_, ?_, hg, hk⟩
    · simp only [go_sem, Nat.reduceEqDiff, Nat.reduceAdd, Nat.reduceMul, Nat.reduceSub, Nat.reducePow, Nat.reduceDiv, Nat.reduceMod, reduceIte, reduceCtorEq, Int.reduceToNat, h41]
    · simp only [go_sem, Nat.reduceEqDiff, Nat.reduceAdd, Nat.reduceMul, Nat.reduceSub, Nat.reducePow, Nat.reduceDiv, Nat.reduceMod, reduceIte, reduceCtorEq, Int.reduceToNat, h42]
    · simp only [go_sem, Nat.reduceEqDiff, Nat.reduceAdd, Nat.reduceMul, Nat.reduceSub, Nat.reducePow, Nat.reduceDiv, Nat.reduceMod, reduceIte, reduceCtorEq, Int.reduceToNat]
      congr 1; omega
    · simp only [go_sem, Nat.reduceEqDiff, Nat.reduceAdd, Nat.reduceMul, Nat.reduceSub, Nat.reducePow, Nat.reduceDiv, Nat.reduceMod, reduceIte, reduceCtorEq, Int.reduceToNat]
      rw [htk]

theorem take_walk (t : List UInt8) (a k : Nat) (s : AS) (h1 : 1 ≤ k) (h2 : k ≤ 8) (ht : t.length < 1099511627776) (h : a + k ≤ t.length) :
    ∃ r s', afn (scall []) 100 A_field_Take [.str t, .int .i64 (a : Nat), .int .i64 (k : Nat)] s = some (r, s') ∧ (r = .tuple [.int .u64 (num ((t.drop a).take k) 0), .int .i64 0] ∧ ∀ b, b < s.nx → s'.get b = s.get b) := by
  refine afn_of_wpK (Nat.le_of_ble_eq_true rfl) ?_
  have hl : ((t.drop a).take k).length = k := by rw [List.length_take, List.length_drop]; omega
  have hk : (a : Int) + k = ((a + k : Nat) : Int) := by omega
  have hk2 : a + k - a = k := by omega
  simp (disch := first | omega | (simp only [go_sem, Nat.reduceEqDiff, Nat.reduceAdd, Nat.reduceMul, Nat.reduceSub, Nat.reducePow, Nat.reduceDiv, Nat.reduceMod, reduceIte, reduceCtorEq, Int.reduceToNat]; done)) only [go_sem, Nat.reduceEqDiff, Nat.reduceAdd, Nat.reduceMul, Nat.reduceSub, Nat.reducePow, Nat.reduceDiv, Nat.reduceMod, reduceIte, reduceCtorEq, Int.reduceToNat, A_field_Take, A_field_Taker0, A_field_Takec5, A_field_Taker6, A_field_Taker7, A_field_Takec14, A_field_Taker15, A_field_Taker1, A_field_Taker2, A_field_Taker3, A_field_Taker4, hk, hk2, hl]
  generalize hL : List.take k (List.drop a t) = l at hl
  refine wpK_loop _ (TakeE l s) (TakeI l s) (fun x => x) (fun x tm s' hI _ => take_body l s (by omega) x tm s' hI _) l.length ?_ (show l.length < 100 by omega) ?_ ?_
  · refine ⟨Nat.le_refl _, ?_, ?_, ?_, ?_, ?_, (Kept.refl s).new _⟩
    · simp only [go_sem, Nat.reduceEqDiff, Nat.reduceAdd, Nat.reduceMul, Nat.reduceSub, Nat.reducePow, Nat.reduceDiv, Nat.reduceMod, reduceIte, reduceCtorEq, Int.reduceToNat, hl]
    · simp only [go_sem, Nat.reduceEqDiff, Nat.reduceAdd, Nat.reduceMul, Nat.reduceSub, Nat.reducePow, Nat.reduceDiv, Nat.reduceMod, reduceIte, reduceCtorEq, Int.reduceToNat, hl]
    · simp only [go_sem, Nat.reduceEqDiff, Nat.reduceAdd, Nat.reduceMul, Nat.reduceSub, Nat.reducePow, Nat.reduceDiv, Nat.reduceMod, reduceIte, reduceCtorEq, Int.reduceToNat, Nat.sub_self]; rfl
    · simp only [go_sem, Nat.reduceEqDiff, Nat.reduceAdd, Nat.reduceMul, Nat.reduceSub, Nat.reducePow, Nat.reduceDiv, Nat.reduceMod, reduceIte, reduceCtorEq, Int.reduceToNat, Nat.sub_self, List.take_zero]; rfl
    · rw [get_new_same]; rfl
  · rintro id tm s' ⟨he, h8, hk⟩
    cases he
    simp (disch := first | omega | (simp only [go_sem, Nat.reduceEqDiff, Nat.reduceAdd, Nat.reduceMul, Nat.reduceSub, Nat.reducePow, Nat.reduceDiv, Nat.reduceMod, reduceIte, reduceCtorEq, Int.reduceToNat]; done)) only [go_sem, Nat.reduceEqDiff, Nat.reduceAdd, Nat.reduceMul, Nat.reduceSub, Nat.reducePow, Nat.reduceDiv, Nat.reduceMod, reduceIte, reduceCtorEq, Int.reduceToNat, A_field_Take, A_field_Taker0, A_field_Takec5, A_field_Taker6, A_field_Taker7, A_field_Takec14, A_field_Taker15, A_field_Taker1, A_field_Taker2, A_field_Taker3, A_field_Taker4, h8]
    exact hk.2
  · rintro tm s' ⟨he, _⟩
    cases he

theorem take_walk' (t : List UInt8) (a k : Nat) (s : AS) (h1 : 1 ≤ k) (h2 : k ≤ 8) (ht : t.length < 1099511627776) (h : ¬ a + k ≤ t.length) (ha : a < 4611686018427387904) :
    ∃ r s', afn (scall []) 100 A_field_Take [.str t, .int .i64 (a : Nat), .int .i64 (k : Nat)] s = some (r, s') ∧ (r = .tuple [.int .u64 0, .int .i64 3] ∧ ∀ b, b < s.nx → s'.get b = s.get b) := by
  refine afn_of_wpK (Nat.le_of_ble_eq_true rfl) ?_
  by_cases hc : t.length < a
  · simp (disch := first | omega | (simp only [go_sem, Nat.reduceEqDiff, Nat.reduceAdd, Nat.reduceMul, Nat.reduceSub, Nat.reducePow, Nat.reduceDiv, Nat.reduceMod, reduceIte, reduceCtorEq, Int.reduceToNat]; done)) only [go_sem, Nat.reduceEqDiff, Nat.reduceAdd, Nat.reduceMul, Nat.reduceSub, Nat.reducePow, Nat.reduceDiv, Nat.reduceMod, reduceIte, reduceCtorEq, Int.reduceToNat, A_field_Take, A_field_Taker0, A_field_Takec5, A_field_Taker6, A_field_Taker7, A_field_Takec14, A_field_Taker15, A_field_Taker1, A_field_Taker2, A_field_Taker3, A_field_Taker4]
    exact fun _ _ => trivial
  · simp (disch := first | omega | (simp only [go_sem, Nat.reduceEqDiff, Nat.reduceAdd, Nat.reduceMul, Nat.reduceSub, Nat.reducePow, Nat.reduceDiv, Nat.reduceMod, reduceIte, reduceCtorEq, Int.reduceToNat]; done)) only [go_sem, Nat.reduceEqDiff, Nat.reduceAdd, Nat.reduceMul, Nat.reduceSub, Nat.reducePow, Nat.reduceDiv, Nat.reduceMod, reduceIte, reduceCtorEq, Int.reduceToNat, A_field_Take, A_field_Taker0, A_field_Takec5, A_field_Taker6, A_field_Taker7, A_field_Takec14, A_field_Taker15, A_field_Taker1, A_field_Taker2, A_field_Taker3, A_field_Taker4]
    exact fun _ _ => trivial

theorem take_ok {P : Program} {f : FuncId} (hf : FnIs P f A_field_Take) (hmix : P.follows .mixedOrders = true) : SumOK P f sumTake := by
  intro args s r s' hs
  unfold sumTake at hs
  split at hs
  · rename_i t a k
    split at hs
    · rename_i hc
      obtain ⟨h1, h2, h3, h3', h4⟩ := hc
      obtain ⟨k, rfl⟩ : ∃ m : Nat, k = m := ⟨k.toNat, by omega⟩
      obtain ⟨a, rfl⟩ : ∃ m : Nat, a = m := ⟨a.toNat, by omega⟩
      simp only [Int.toNat_natCast] at hs
      split at hs
      · cases hs
        exact hf.pure hmix (t := []) (by simp) (fun _ => ⟨trivial, trivial, trivial⟩) fun _ _ => by
          obtain ⟨r, s', e1, e2, e3⟩ := take_walk t a k s (by omega) (by omega) h4 (by omega)
          exact ⟨r, s', e1, e2, e3⟩
      · cases hs
        exact hf.pure hmix (t := []) (by simp) (fun _ => ⟨trivial, trivial, trivial⟩) fun _ _ => by
          obtain ⟨r, s', e1, e2, e3⟩ := take_walk' t a k s (by omega) (by omega) h4 (by omega) (by omega)
          exact ⟨r, s', e1, e2, e3⟩
    · cases hs
  · cases hs

/-! ## crc.On -/

def crcRow (i : Nat) : Nat := [0x00000000, 0x1db71064, 0x3b6e20c8, 0x26d930ac, 0x76dc4190, 0x6b6b51f4, 0x4db26158, 0x5005713c, 0xedb88320, 0xf00f9344, 0xd6d6a3e8, 0xcb61b38c, 0x9b64c2b0, 0x86d3d2d4, 0xa00ae278, 0xbdbdf21c].getD i 0
def crcHalf (r : Nat) : Nat := (r / 16) ^^^ crcRow (r % 16)
def crcGo : List UInt8 → Nat → Nat
  | [], r => r
  | b :: l, r => crcGo l (crcHalf (crcHalf (r ^^^ b.toNat)))
def crcOn (sum : Nat) (l : List UInt8) : Nat := 4294967295 ^^^ crcGo l (4294967295 ^^^ sum)

/-- The table's block. -/
def crcTab : List AV := [.int .u32 0x00000000, .int .u32 0x1db71064, .int .u32 0x3b6e20c8, .int .u32 0x26d930ac, .int .u32 0x76dc4190, .int .u32 0x6b6b51f4, .int .u32 0x4db26158, .int .u32 0x5005713c, .int .u32 0xedb88320, .int .u32 0xf00f9344, .int .u32 0xd6d6a3e8, .int .u32 0xcb61b38c, .int .u32 0x9b64c2b0, .int .u32 0x86d3d2d4, .int .u32 0xa00ae278, .int .u32 0xbdbdf21c]

def isTab : Option ABlk → Bool
  | some (.cells cs _ _ _ _) => decide (cs = crcTab)
  | _ => false

def sumOn (g : Nat) : ASum
  | [.int .u32 c, .str t], s => if 0 ≤ c ∧ c ≤ 4294967295 ∧ t.length < 1099511627776 ∧ isTab (s.get g) = true then some (.int .u32 (crcOn c.toNat t : Nat), s) else none
  | _, _ => none

theorem crcRow_lt (i : Nat) : crcRow i < 4294967296 := by
  unfold crcRow
  by_cases h : i < 16
  · have : ∀ j, j < 16 → ([0x00000000, 0x1db71064, 0x3b6e20c8, 0x26d930ac, 0x76dc4190, 0x6b6b51f4, 0x4db26158, 0x5005713c, 0xedb88320, 0xf00f9344, 0xd6d6a3e8, 0xcb61b38c, 0x9b64c2b0, 0x86d3d2d4, 0xa00ae278, 0xbdbdf21c] : List Nat).getD j 0 < 4294967296 := by decide
    exact this i h
  · rw [List.getD_eq_getElem?_getD, List.getElem?_eq_none (by simp; omega)]
    decide
theorem crcHalf_lt (r : Nat) (h : r < 4294967296) : crcHalf r < 4294967296 := Nat.xor_lt_two_pow (n := 32) (by omega) (crcRow_lt _)
theorem crcGo_lt : ∀ (l : List UInt8) (r : Nat), r < 4294967296 → crcGo l r < 4294967296
  | [], _, h => h
  | b :: l, r, h => crcGo_lt l _ (crcHalf_lt _ (crcHalf_lt _ (Nat.xor_lt_two_pow (n := 32) h (by have := b.toNat_lt; omega))))
theorem crcOn_lt (c : Nat) (l : List UInt8) (h : c < 4294967296) : crcOn c l < 4294967296 :=
  Nat.xor_lt_two_pow (n := 32) (by decide) (crcGo_lt l _ (Nat.xor_lt_two_pow (n := 32) (by decide) h))

theorem crcTab_get (i : Nat) (h : i < 16) : crcTab[i]? = some (.int .u32 (crcRow i : Nat)) := by
  match i, h with
  | 0, _ | 1, _ | 2, _ | 3, _ | 4, _ | 5, _ | 6, _ | 7, _ | 8, _ | 9, _ | 10, _ | 11, _ | 12, _ | 13, _ | 14, _ | 15, _ => rfl
  | n + 16, h => omega

def OnI (t : List UInt8) (c : Nat) (s : AS) (x : Nat) (tm : Tm) (s' : AS) : Prop :=
  x ≤ t.length ∧ s' = s ∧ tm.at 1 = .str t ∧ tm.at 10 = .int .i64 t.length ∧ tm.at 11 = .int .i64 ((t.length - x : Nat) : Int) ∧ ∃ r : Nat, r < 4294967296 ∧ tm.at 5 = .int .u32 r ∧ crcGo (t.drop (t.length - x)) r = c
def OnE (c : Nat) (s : AS) (e : AE) (tm : Tm) (s' : AS) : Prop := e = .exit 0 ∧ s' = s ∧ tm.at 5 = .int .u32 (c : Nat)

theorem on_body (g : Nat) (hgn : g = 0) (t : List UInt8) (c : Nat) (s : AS) (hl : t.length < 1099511627776) {e : Nat} {ex ro : Bool} {el : Option TypeId} (hg : s.get g = some (.cells crcTab e ex ro el)) (x : Nat) (tm : Tm) (s' : AS) (hI : OnI t c s x tm s') (N : Nat) :
    wpK (scall []) N [.code A_crc_Onl10] tm s' (LQ (OnI t c s) (fun x => x) x (OnE c s)) := by
  subst hgn
  obtain ⟨hx, rfl, h1, h10, h11, r, hr, h5, hc⟩ := hI
  cases x with
  | zero =>
    simp (disch := first | omega | (simp only [go_sem, Nat.reduceEqDiff, Nat.reduceAdd, Nat.reduceMul, Nat.reduceSub, Nat.reducePow, Nat.reduceDiv, Nat.reduceMod, reduceIte, reduceCtorEq, Int.reduceToNat]; done)) only [go_sem, Nat.reduceEqDiff, Nat.reduceAdd, Nat.reduceMul, Nat.reduceSub, Nat.reducePow, Nat.reduceDiv, Nat.reduceMod, reduceIte, reduceCtorEq, Int.reduceToNat, A_crc_Onl10, A_crc_Onr3, A_crc_Onc8, A_crc_Onr9, A_crc_Onr4, A_crc_Onr5, A_crc_Onr6, A_crc_Onr7, h1, h10, h11, h5]
    rw [Nat.sub_zero, List.drop_length] at hc
    exact ⟨rfl, rfl, by simp only [go_sem, Nat.reduceEqDiff, Nat.reduceAdd, Nat.reduceMul, Nat.reduceSub, Nat.reducePow, Nat.reduceDiv, Nat.reduceMod, reduceIte, reduceCtorEq, Int.reduceToNat]; rw [h5, ← hc]; rfl⟩
  | succ x =>
    have hlt : t.length - (x + 1) < t.length := by omega
    have hget : t[t.length - (x + 1)]? = some t[t.length - (x + 1)] := List.getElem?_eq_getElem hlt
    have hb := t[t.length - (x + 1)].toNat_lt
    have q1 : r ^^^ t[t.length - (x + 1)].toNat < 4294967296 := Nat.xor_lt_two_pow (n := 32) hr (by omega)
    have e1 := xor32 r _ hr (show t[t.length - (x + 1)].toNat < 4294967296 by omega)
    have q2 := crcHalf_lt _ q1
    have g1 := crcTab_get ((r ^^^ t[t.length - (x + 1)].toNat) % 16) (Nat.mod_lt _ (by omega))
    have g2 := crcTab_get (crcHalf (r ^^^ t[t.length - (x + 1)].toNat) % 16) (Nat.mod_lt _ (by omega))
    have f1 := and15 _ q1
    have f2 := and15 _ q2
    have x1 := xor32 ((r ^^^ t[t.length - (x + 1)].toNat) / 16) _ (by omega) (crcRow_lt ((r ^^^ t[t.length - (x + 1)].toNat) % 16))
    have x2 := xor32 (crcHalf (r ^^^ t[t.length - (x + 1)].toNat) / 16) _ (by omega) (crcRow_lt (crcHalf (r ^^^ t[t.length - (x + 1)].toNat) % 16))
    have y1 : (r ^^^ t[t.length - (x + 1)].toNat) / 16 ^^^ crcRow ((r ^^^ t[t.length - (x + 1)].toNat) % 16) = crcHalf (r ^^^ t[t.length - (x + 1)].toNat) := rfl
    have y2 : crcHalf (r ^^^ t[t.length - (x + 1)].toNat) / 16 ^^^ crcRow (crcHalf (r ^^^ t[t.length - (x + 1)].toNat) % 16) = crcHalf (crcHalf (r ^^^ t[t.length - (x + 1)].toNat)) := rfl
    rw [y1] at x1
    rw [y2] at x2
    have q3 := crcHalf_lt _ q2
    have z1 : (r ^^^ t[t.length - (x + 1)].toNat) % 16 < 16 := Nat.mod_lt _ (by omega)
    have z2 : crcHalf (r ^^^ t[t.length - (x + 1)].toNat) % 16 < 16 := Nat.mod_lt _ (by omega)
    simp (disch := first | omega | (simp only [go_sem, Nat.reduceEqDiff, Nat.reduceAdd, Nat.reduceMul, Nat.reduceSub, Nat.reducePow, Nat.reduceDiv, Nat.reduceMod, reduceIte, reduceCtorEq, Int.reduceToNat]; done)) only [go_sem, Nat.reduceEqDiff, Nat.reduceAdd, Nat.reduceMul, Nat.reduceSub, Nat.reducePow, Nat.reduceDiv, Nat.reduceMod, reduceIte, reduceCtorEq, Int.reduceToNat, A_crc_Onl10, A_crc_Onr3, A_crc_Onc8, A_crc_Onr9, A_crc_Onr4, A_crc_Onr5, A_crc_Onr6, A_crc_Onr7, h1, h10, h11, h5, hg, hget, e1, shr4, f1, f2, takeX_one _ _ _ g1, takeX_one _ _ _ g2, x1, x2]
    refine ⟨x, Nat.lt_succ_self x, by omega, rfl, ?_, ?_, ?_, _, q3, ?_, ?_⟩
    · simp only [go_sem, Nat.reduceEqDiff, Nat.reduceAdd, Nat.reduceMul, Nat.reduceSub, Nat.reducePow, Nat.reduceDiv, Nat.reduceMod, reduceIte, reduceCtorEq, Int.reduceToNat, h1]
    · simp only [go_sem, Nat.reduceEqDiff, Nat.reduceAdd, Nat.reduceMul, Nat.reduceSub, Nat.reducePow, Nat.reduceDiv, Nat.reduceMod, reduceIte, reduceCtorEq, Int.reduceToNat, h10]
    · simp only [go_sem, Nat.reduceEqDiff, Nat.reduceAdd, Nat.reduceMul, Nat.reduceSub, Nat.reducePow, Nat.reduceDiv, Nat.reduceMod, reduceIte, reduceCtorEq, Int.reduceToNat]
      congr 1; omega
    · simp only [go_sem, Nat.reduceEqDiff, Nat.reduceAdd, Nat.reduceMul, Nat.reduceSub, Nat.reducePow, Nat.reduceDiv, Nat.reduceMod, reduceIte, reduceCtorEq, Int.reduceToNat]
    · have : t.length - x = t.length - (x + 1) + 1 := by omega
      rw [this, ← hc, List.drop_eq_getElem_cons hlt]
      rfl

theorem on_walk (g : Nat) (hgn : g = 0) (t : List UInt8) (c : Nat) (s : AS) (hl : t.length < 1099511627776) (hc : c < 4294967296) {e : Nat} {ex ro : Bool} {el : Option TypeId} (hg : s.get g = some (.cells crcTab e ex ro el)) :
    ∃ r s', afn (scall []) 1099511627776 A_crc_On [.int .u32 (c : Nat), .str t] s = some (r, s') ∧ (r = .int .u32 (crcOn c t : Nat) ∧ ∀ b, b < s.nx → s'.get b = s.get b) := by
  refine afn_of_wpK (Nat.le_of_ble_eq_true rfl) ?_
  have h0 : 4294967295 ^^^ c < 4294967296 := Nat.xor_lt_two_pow (n := 32) (by decide) hc
  simp (disch := first | omega | (simp only [go_sem, Nat.reduceEqDiff, Nat.reduceAdd, Nat.reduceMul, Nat.reduceSub, Nat.reducePow, Nat.reduceDiv, Nat.reduceMod, reduceIte, reduceCtorEq, Int.reduceToNat]; done)) only [go_sem, Nat.reduceEqDiff, Nat.reduceAdd, Nat.reduceMul, Nat.reduceSub, Nat.reducePow, Nat.reduceDiv, Nat.reduceMod, reduceIte, reduceCtorEq, Int.reduceToNat, A_crc_On, A_crc_Onr0, A_crc_Onr1, A_crc_Onr2, A_crc_Onc11, A_crc_Onr12, com32 _ hc]
  refine wpK_loop _ (OnE (crcGo t (4294967295 ^^^ c)) s) (OnI t (crcGo t (4294967295 ^^^ c)) s) (fun x => x) (fun x tm s' hI _ => on_body g hgn t _ s hl hg x tm s' hI _) t.length ?_ hl ?_ ?_
  · refine ⟨Nat.le_refl _, rfl, ?_, ?_, ?_, _, h0, ?_, ?_⟩
    · simp only [go_sem, Nat.reduceEqDiff, Nat.reduceAdd, Nat.reduceMul, Nat.reduceSub, Nat.reducePow, Nat.reduceDiv, Nat.reduceMod, reduceIte, reduceCtorEq, Int.reduceToNat]
    · simp only [go_sem, Nat.reduceEqDiff, Nat.reduceAdd, Nat.reduceMul, Nat.reduceSub, Nat.reducePow, Nat.reduceDiv, Nat.reduceMod, reduceIte, reduceCtorEq, Int.reduceToNat]
    · simp only [go_sem, Nat.reduceEqDiff, Nat.reduceAdd, Nat.reduceMul, Nat.reduceSub, Nat.reducePow, Nat.reduceDiv, Nat.reduceMod, reduceIte, reduceCtorEq, Int.reduceToNat, Nat.sub_self]; rfl
    · simp only [go_sem, Nat.reduceEqDiff, Nat.reduceAdd, Nat.reduceMul, Nat.reduceSub, Nat.reducePow, Nat.reduceDiv, Nat.reduceMod, reduceIte, reduceCtorEq, Int.reduceToNat]
    · rw [Nat.sub_self, List.drop_zero]
  · rintro id tm s' ⟨he, rfl, h5⟩
    cases he
    simp (disch := first | omega | (simp only [go_sem, Nat.reduceEqDiff, Nat.reduceAdd, Nat.reduceMul, Nat.reduceSub, Nat.reducePow, Nat.reduceDiv, Nat.reduceMod, reduceIte, reduceCtorEq, Int.reduceToNat]; done)) only [go_sem, Nat.reduceEqDiff, Nat.reduceAdd, Nat.reduceMul, Nat.reduceSub, Nat.reducePow, Nat.reduceDiv, Nat.reduceMod, reduceIte, reduceCtorEq, Int.reduceToNat, A_crc_On, A_crc_Onr0, A_crc_Onr1, A_crc_Onr2, A_crc_Onc11, A_crc_Onr12, h5, com32 _ (crcGo_lt t _ h0)]
    exact ⟨rfl, fun _ _ => trivial⟩
  · rintro tm s' ⟨he, _⟩
    cases he

theorem on_ok {P : Program} {f : FuncId} (g : Nat) (hgn : g = 0) (hf : FnIs P f A_crc_On) (hmix : P.follows .mixedOrders = true) : SumOK P f (sumOn g) := by
  intro args s r s' hs
  unfold sumOn at hs
  split at hs
  · rename_i c t
    split at hs
    · rename_i hc
      obtain ⟨h1, h2, h3, h4⟩ := hc
      obtain ⟨c, rfl⟩ : ∃ m : Nat, c = m := ⟨c.toNat, by omega⟩
      simp only [Int.toNat_natCast] at hs
      cases hs
      obtain ⟨e, ex, ro, el, hg⟩ : ∃ e ex ro el, s.get g = some (.cells crcTab e ex ro el) := by
        unfold isTab at h4
        split at h4
        · rename_i cs e ex ro el hb
          have := of_decide_eq_true h4
          subst this
          exact ⟨e, ex, ro, el, hb⟩
        · cases h4
      exact hf.pure hmix (t := []) (by simp) (fun _ => trivial) fun _ _ => by
        obtain ⟨r, s', e1, e2, e3⟩ := on_walk g hgn t c s h3 (by omega) hg
        exact ⟨r, s', e1, e2, e3⟩
    · cases hs
  · cases hs

/-! ## (*dev.Dev).step -/

def sumStep : ASum
  | [.ptr (some (d, 0))], s =>
    match s.get d with
    | some (.cells [la, wa, .bool off, .int .i64 fuse, .int .i64 steps, wr] e x false el) =>
      if off then some (.bool false, s) else
      if 0 ≤ fuse ∧ fuse ≤ 9223372036854775807 ∧ 0 ≤ steps ∧ steps < 4611686018427387904 then
        some (.bool !(decide (fuse = 1)), s.put d (.cells [la, wa, .bool (decide (fuse = 1)), .int .i64 (max 0 (fuse - 1)), .int .i64 (steps + 1), wr] e x false el))
      else none
    | _ => none
  | _, _ => none

theorem step_walk (d : Nat) (s : AS) (la wa wr : AV) (off : Bool) (fuse steps : Int) (e : Nat) (x : Bool) (el : Option TypeId) (hg : s.get d = some (.cells [la, wa, .bool off, .int .i64 fuse, .int .i64 steps, wr] e x false el))
    (hf : off = false → 0 ≤ fuse ∧ fuse ≤ 9223372036854775807 ∧ 0 ≤ steps ∧ steps < 4611686018427387904) (N : Nat) :
    ∃ r s', afn (scall []) N A_dev_Dev_step [.ptr (some (d, 0))] s = some (r, s') ∧ (if off then r = .bool false ∧ s' = s else r = .bool !(decide (fuse = 1)) ∧
      s' = s.put d (.cells [la, wa, .bool (decide (fuse = 1)), .int .i64 (max 0 (fuse - 1)), .int .i64 (steps + 1), wr] e x false el)) := by
  refine afn_of_wpK (Nat.le_of_ble_eq_true rfl) ?_
  cases off with
  | true =>
    simp (disch := first | omega | (simp only [go_sem, Nat.reduceEqDiff, Nat.reduceAdd, Nat.reduceMul, Nat.reduceSub, Nat.reducePow, Nat.reduceDiv, Nat.reduceMod, reduceIte, reduceCtorEq, Int.reduceToNat]; done)) only [go_sem, Nat.reduceEqDiff, Nat.reduceAdd, Nat.reduceMul, Nat.reduceSub, Nat.reducePow, Nat.reduceDiv, Nat.reduceMod, reduceIte, reduceCtorEq, Int.reduceToNat, A_dev_Dev_step, A_dev_Dev_stepr0, A_dev_Dev_stepr1, A_dev_Dev_stepr2, A_dev_Dev_stepr3, A_dev_Dev_stepr4, A_dev_Dev_stepr5, A_dev_Dev_stepr6, A_dev_Dev_stepr7, hg]
  | false =>
    obtain ⟨h1, h2, h3, h4⟩ := hf rfl
    by_cases hf1 : fuse = 1
    · subst hf1
      simp (disch := first | omega | (simp only [go_sem, Nat.reduceEqDiff, Nat.reduceAdd, Nat.reduceMul, Nat.reduceSub, Nat.reducePow, Nat.reduceDiv, Nat.reduceMod, reduceIte, reduceCtorEq, Int.reduceToNat]; done)) only [go_sem, Nat.reduceEqDiff, Nat.reduceAdd, Nat.reduceMul, Nat.reduceSub, Nat.reducePow, Nat.reduceDiv, Nat.reduceMod, reduceIte, reduceCtorEq, Int.reduceToNat, A_dev_Dev_step, A_dev_Dev_stepr0, A_dev_Dev_stepr1, A_dev_Dev_stepr2, A_dev_Dev_stepr3, A_dev_Dev_stepr4, A_dev_Dev_stepr5, A_dev_Dev_stepr6, A_dev_Dev_stepr7, hg]
      try trivial
    · simp (disch := first | omega | (simp only [go_sem, Nat.reduceEqDiff, Nat.reduceAdd, Nat.reduceMul, Nat.reduceSub, Nat.reducePow, Nat.reduceDiv, Nat.reduceMod, reduceIte, reduceCtorEq, Int.reduceToNat]; done)) only [go_sem, Nat.reduceEqDiff, Nat.reduceAdd, Nat.reduceMul, Nat.reduceSub, Nat.reducePow, Nat.reduceDiv, Nat.reduceMod, reduceIte, reduceCtorEq, Int.reduceToNat, A_dev_Dev_step, A_dev_Dev_stepr0, A_dev_Dev_stepr1, A_dev_Dev_stepr2, A_dev_Dev_stepr3, A_dev_Dev_stepr4, A_dev_Dev_stepr5, A_dev_Dev_stepr6, A_dev_Dev_stepr7, hg]
      try trivial

theorem step_ok {P : Program} {f : FuncId} (hf : FnIs P f A_dev_Dev_step) (hmix : P.follows .mixedOrders = true) : SumOK P f sumStep := by
  intro args s r s' hs
  unfold sumStep at hs
  split at hs
  · rename_i d
    split at hs
    · rename_i la wa off fuse steps wr e x el hg
      cases off with
      | true =>
        simp only [if_true] at hs
        cases hs
        obtain ⟨r, s', h1, h2⟩ := step_walk d s la wa wr true fuse steps e x el hg (by simp) 0
        obtain ⟨rfl, rfl⟩ := h2
        exact hf.ev hmix (t := []) (by simp) fun _ _ => h1
      | false =>
        simp only [Bool.false_eq_true, if_false] at hs
        split at hs
        · rename_i hc
          cases hs
          obtain ⟨r, s', h1, h2⟩ := step_walk d s la wa wr false fuse steps e x el hg (fun _ => hc) 0
          obtain ⟨rfl, rfl⟩ := h2
          exact hf.ev hmix (t := []) (by simp) fun _ _ => h1
        · cases hs
    · cases hs
  · cases hs
end Go.Ai

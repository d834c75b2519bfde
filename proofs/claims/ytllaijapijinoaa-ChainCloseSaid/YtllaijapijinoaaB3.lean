/-
  Parts of one proof, in their order: Contracts of the functions without a body. Conditions: those in each statement. · Contracts of the wide numbers' small functions. Conditions: those in each statement. · Contracts of the small functions of planes and crossings. Conditions: none. · Contracts of the comparing functions. Conditions: those in each statement. · Contracts of the wide numbers' sums and signs. Conditions: those in each statement. · Contracts of products. Conditions: those in each statement. · Contracts of wide products. Conditions: those in each statement. · The contract of the long division. Conditions: those in each statement. · The walk through the long division. Conditions: those in each statement. · The contracts of the long division, and of Div. Conditions: those in each statement. · What two segments have in common, as a plain function of eight numbers, and that it is the same for segments turned round or changed. Conditions: none but those in each statement. · How the comparison of two fractions goes from one round to the next. Conditions: the lower numbers above 0. · The contract of Div. Conditions: the divisor above 0; the dividend not the least number. · The contracts of the fractions. Conditions: those in each statement. · The contracts of the plane's functions. Conditions: points that may be, those in each statement. · The contracts of what a meeting is made of. Conditions: bounds, those in each statement.
-/
import Derived.Test.YtllaijapijinoaaB2
import Derived.Laws.Externs
import Derived.Laws.Bits64b
set_option linter.all false
namespace Go.Proofs.Ytllaijapijinoaa
open Go.Cw
set_option linter.unusedVariables false

/-- A call that runs here and now, of numbers. -/
theorem ret_value {f : FuncId} {args : List AV} {vs : List Value} {r : AV} {v : Value} (hargs : ∀ (h : PH) (ρ : Ro) (vals : List Value), vals.length = args.length → (∀ (j : Nat) x v, args[j]? = some x → vals[j]? = some v → R1 h ρ x v) → vals = vs)
    (hr : ∀ h ρ, R2 h ρ r v) (hrun : ∀ w, (callFunc f vs.toArray).run Try.prog w = .ok (.value v) w) : Ret Try.prog f [] args r [] := by
  refine ⟨fun w h ρ vals hin hrb hok hinj hout hl hv => ?_⟩
  have e := hargs h ρ vals hl hv
  subst e
  unfold CF
  rw [hrun w]
  exact ⟨h, ρ, h.le_refl, ρ.le_refl, hr h ρ, ⟨rfl, rfl, rfl, Nat.le_refl _, fun _ _ _ => rfl, hin, h.le_refl, fun g o hg => .inl hg, fun id q hq => .inl ⟨id, hq⟩, hok, hinj, hrb⟩⟩

theorem ints3 {a b c : IntKind} {x y z : Int} (h : PH) (ρ : Ro) (vals : List Value) (hl : vals.length = [AV.int a x, .int b y, .int c z].length) (hv : ∀ (j : Nat) q v, [AV.int a x, .int b y, .int c z][j]? = some q → vals[j]? = some v → R1 h ρ q v) :
    vals = [.int a x, .int b y, .int c z] := by
  match vals, hl with
  | [u, v, w], _ =>
    have h0 := (R2.lf (hv 0 _ u rfl rfl)).int_inv
    have h1 := (R2.lf (hv 1 _ v rfl rfl)).int_inv
    have h2 := (R2.lf (hv 2 _ w rfl rfl)).int_inv
    rw [h0, h1, h2]

theorem tup2 {a b : IntKind} {x y : Int} (h : PH) (ρ : Ro) : R2 h ρ (.tup [.int a x, .int b y]) (.tuple #[.int a x, .int b y]) := by
  refine .tup _ [.int a x, .int b y] rfl fun j c v e1 e2 => ?_
  match j with
  | 0 => simp at e1 e2; subst e1; subst e2; exact .lf (.lf (.cl rfl (.int _ _)))
  | 1 => simp at e1 e2; subst e1; subst e2; exact .lf (.lf (.cl rfl (.int _ _)))
  | j + 2 => simp at e1

theorem add64_ret (x y c : Int) (hx : 0 ≤ x) (hy : 0 ≤ y) (hc0 : 0 ≤ c) (hc : c ≤ 1) :
    Ret Try.prog 136 [] [.int .u64 x, .int .u64 y, .int .u64 c] (.tup [.int .u64 ((x + y + c) % 18446744073709551616), .int .u64 ((x + y + c) / 18446744073709551616)]) [] := by
  refine ret_value ints3 tup2 fun w => ?_
  rw [run_callFunc_extern Try.func136 (by kernel_rfl) (by kernel_rfl) (by kernel_rfl) (e := add64Entry) (by kernel_rfl), run_add64 x y c hx hy hc0 hc]
  rfl

/-- The model's entry for the difference. -/
def subEntry : Array Value → Sem Value := (Extern.MathBitsCarry.rows[1]'(by decide)).2
theorem run_subEntry {P : Program} (x y b : Nat) (hb : b ≤ 1) (w : World) :
    (subEntry #[.int .u64 x, .int .u64 y, .int .u64 b]).run P w =
      .ok (.tuple #[.int .u64 (((x + 18446744073709551616 - y - b) % 18446744073709551616 : Nat) : Int), .int .u64 ((if x < y + b then 1 else 0 : Nat) : Int)]) w := by
  have : b = 0 ∨ b = 1 := by omega
  rcases this with rfl | rfl <;> rfl

theorem sub64_ret (x y b : Int) (hx : 0 ≤ x) (hx' : x < 18446744073709551616) (hy : 0 ≤ y) (hy' : y < 18446744073709551616) (hb0 : 0 ≤ b) (hb : b ≤ 1) :
    Ret Try.prog 133 [] [.int .u64 x, .int .u64 y, .int .u64 b] (.tup [.int .u64 ((x - y - b) % 18446744073709551616), .int .u64 (if x < y + b then 1 else 0)]) [] := by
  refine ret_value ints3 tup2 fun w => ?_
  obtain ⟨X, rfl⟩ := Int.eq_ofNat_of_zero_le hx
  obtain ⟨Y, rfl⟩ := Int.eq_ofNat_of_zero_le hy
  obtain ⟨B, rfl⟩ := Int.eq_ofNat_of_zero_le hb0
  have := run_subEntry (P := Try.prog) X Y B (by omega) w
  rw [run_callFunc_extern Try.func133 (by kernel_rfl) (by kernel_rfl) (by kernel_rfl) (e := subEntry) (by kernel_rfl), this]
  have e1 : (((X + 18446744073709551616 - Y - B) % 18446744073709551616 : Nat) : Int) = ((X : Int) - Y - B) % 18446744073709551616 := by omega
  have e2 : ((if X < Y + B then 1 else 0 : Nat) : Int) = if (X : Int) < Y + B then 1 else 0 := by split <;> split <;> omega
  rw [e1, e2]
  rfl

end Go.Proofs.Ytllaijapijinoaa

namespace Go.Proofs.Ytllaijapijinoaa
open Go.Cw
set_option linter.unusedVariables false

theorem eq2 {a : AV} (b : AV) {c : AV} (h : a = b) (h2 : b = c) : a = c := h.trans h2
abbrev wd2 (h l : Int) : AV := .ag [.int .i64 h, .int .u64 l]
/-- A wide number, modulo 2^128. -/
abbrev wdn (n : Int) : AV := wd2 (IntKind.wrap .i64 (n / 18446744073709551616)) (n % 18446744073709551616)
abbrev i64 (n : Int) : AV := .int .i64 n
abbrev u64 (n : Int) : AV := .int .u64 n
theorem p63 : (2 : Int) ^ (min (Int.toNat 63) (IntKind.bits .i64)) = 9223372036854775808 := by decide
theorem p63u : (2 : Int) ^ (min (Int.toNat 63) (IntKind.bits .u64)) = 9223372036854775808 := by decide

theorem wideOf_ret (x : Int) (h1 : -9223372036854775808 ≤ x) (h2 : x < 9223372036854775808) : Ret Try.prog 62 [] [i64 x] (wdn x) [] := by
  refine ret_of Try.func62 rfl rfl rfl ?_
  exact ⟨eq2 (wd2 (x.fdiv (2 ^ (min (Int.toNat 63) (IntKind.bits .i64)))) (IntKind.wrap .u64 x)) (by
    rw [p63, Int.fdiv_eq_ediv_of_nonneg _ (by decide)]
    simp only [wdn, wd2, IntKind.wrap_i64, IntKind.wrap_u64]
    congr 4
    omega) rfl, rfl, trivial⟩

theorem wrap_ret (m n : Int) : Ret Try.prog 110 [] [wdn m, wdn n] (wdn (m + n)) [] := by
  refine ret_of Try.func110 rfl rfl rfl ?_
  refine RC.use (add64_ret _ _ 0 (by omega) (by omega) (by omega) (by omega)) rfl ?_
  refine RC.use (add64_ret _ _ _ (by simp only [IntKind.wrap_u64]; omega) (by simp only [IntKind.wrap_u64]; omega) (by omega) (by omega)) rfl ?_
  exact ⟨eq2 (wd2 (IntKind.wrap .i64 ((IntKind.wrap .u64 (IntKind.wrap .i64 (m / 18446744073709551616)) + IntKind.wrap .u64 (IntKind.wrap .i64 (n / 18446744073709551616)) +
      (m % 18446744073709551616 + n % 18446744073709551616 + 0) / 18446744073709551616) % 18446744073709551616)) ((m % 18446744073709551616 + n % 18446744073709551616 + 0) % 18446744073709551616)) (by
    simp only [wdn, wd2, IntKind.wrap_i64, IntKind.wrap_u64]
    congr 4
    · omega
    · omega) rfl, rfl, trivial⟩

theorem wrap_ret2 {h1 l1 h2 l2 : Int} (m n : Int) (e1 : wd2 h1 l1 = wdn m) (e2 : wd2 h2 l2 = wdn n) : Ret Try.prog 110 [] [wd2 h1 l1, wd2 h2 l2] (wdn (m + n)) [] := by
  rw [e1, e2]; exact wrap_ret m n

def xorE (k : IntKind) (n : Int) : Int := k.wrap (BitVec.ofInt k.bits (if k.signed then -1 else k.max) ^^^ BitVec.ofInt k.bits n).toNat
theorem not64 (n : Int) : ((BitVec.ofInt 64 (-1) ^^^ BitVec.ofInt 64 n).toNat : Int) = 18446744073709551615 - n % 18446744073709551616 := by
  have e : BitVec.ofInt 64 (-1) = BitVec.allOnes 64 := by decide
  rw [e, BitVec.allOnes_xor, BitVec.toNat_not, BitVec.toNat_ofInt]
  omega
theorem xor_i64 (n : Int) : xorE .i64 n = IntKind.wrap .i64 (-1 - n) := by
  have := not64 n
  show IntKind.wrap .i64 ((BitVec.ofInt 64 (-1) ^^^ BitVec.ofInt 64 n).toNat) = _
  rw [this, IntKind.wrap_i64, IntKind.wrap_i64]
  omega
theorem not64u (n : Int) : ((BitVec.ofInt 64 18446744073709551615 ^^^ BitVec.ofInt 64 n).toNat : Int) = 18446744073709551615 - n % 18446744073709551616 := by
  have e : BitVec.ofInt 64 18446744073709551615 = BitVec.allOnes 64 := by decide
  rw [e, BitVec.allOnes_xor, BitVec.toNat_not, BitVec.toNat_ofInt]
  omega
theorem xor_u64 (n : Int) : xorE .u64 n = (-1 - n) % 18446744073709551616 := by
  have := not64u n
  show IntKind.wrap .u64 ((BitVec.ofInt 64 18446744073709551615 ^^^ BitVec.ofInt 64 n).toNat) = _
  rw [this, IntKind.wrap_u64]
  omega

theorem turn_ret (n : Int) : Ret Try.prog 111 [] [wdn n] (wdn (-n)) [] := by
  refine ret_of Try.func111 rfl rfl rfl ?_
  refine RC.use (wrap_ret2 (h1 := xorE .i64 (IntKind.wrap .i64 (n / 18446744073709551616))) (l1 := xorE .u64 (n % 18446744073709551616)) (h2 := 0) (l2 := 1) (-1 - n) 1 (by
    rw [xor_i64, xor_u64]
    simp only [wdn, wd2, IntKind.wrap_i64]
    congr 4
    · omega
    · omega) (by simp only [wdn, wd2, IntKind.wrap_i64]; rfl)) rfl ?_
  exact ⟨eq2 (wdn (-1 - n + 1)) (by rw [show -1 - n + 1 = -n by omega]) rfl, rfl, trivial⟩
theorem turn_ret2 {h l : Int} (n : Int) (e : wd2 h l = wdn n) : Ret Try.prog 111 [] [wd2 h l] (wdn (-n)) [] := by
  rw [e]; exact turn_ret n

theorem least_ret : Ret Try.prog 135 [] [] (wd2 (-9223372036854775808) 0) [] := by
  refine ret_of Try.func135 rfl rfl rfl ?_
  exact ⟨rfl, rfl, trivial⟩

theorem told_ret (h l : Int) (b : Bool) : Ret Try.prog 134 [] [wd2 h l, .bool b] (.tup [match b with | true => wd2 h l | false => wd2 0 0, .bool b]) [] := by
  refine ret_of Try.func134 rfl rfl rfl ?_
  refine BM.split (fun h1 => ?_) (fun h1 => ?_)
  · have : b = false := by simpa using h1
    subst this
    exact ⟨rfl, rfl, trivial⟩
  · have : b = true := by simpa using h1
    subst this
    exact ⟨rfl, rfl, trivial⟩

def InW (n : Int) : Prop := -170141183460469231731687303715884105728 ≤ n ∧ n < 170141183460469231731687303715884105728

theorem wideSign_ret (n : Int) (hn : InW n) : Ret Try.prog 79 [] [wdn n] (i64 n.sign) [] := by
  obtain ⟨h1, h2⟩ := hn
  refine ret_of Try.func79 rfl rfl rfl ?_
  refine BM.split (fun h3 => ?_) (fun h3 => ?_)
  · have h3 : (IntKind.wrap .i64 (n / 18446744073709551616) == 0 && (n % 18446744073709551616 == 0 && true)) = true := h3
    simp only [Bool.and_true, Bool.and_eq_true, beq_iff_eq, IntKind.wrap_i64] at h3
    have : n = 0 := by omega
    subst this
    exact ⟨rfl, rfl, trivial⟩
  · have h3' : n ≠ 0 := by rintro rfl; exact absurd h3 (by decide)
    have e : IntKind.wrap .i64 (1 - IntKind.wrap .i64 (2 * IntKind.wrap .i64 (Int.fdiv (IntKind.wrap .u64 (IntKind.wrap .i64 (n / 18446744073709551616))) (2 ^ (min (Int.toNat 63) (IntKind.bits .u64)))))) = n.sign := by
      rw [p63u, Int.fdiv_eq_ediv_of_nonneg _ (by decide)]
      simp only [IntKind.wrap_i64, IntKind.wrap_u64]
      rcases Int.lt_trichotomy n 0 with q | q | q
      · rw [Int.sign_eq_neg_one_of_neg q]; omega
      · exact absurd q h3'
      · rw [Int.sign_eq_one_of_pos q]; omega
    exact ⟨eq2 (i64 (IntKind.wrap .i64 (1 - IntKind.wrap .i64 (2 * IntKind.wrap .i64 (Int.fdiv (IntKind.wrap .u64 (IntKind.wrap .i64 (n / 18446744073709551616))) (2 ^ (min (Int.toNat 63) (IntKind.bits .u64)))))))) (by rw [e]) rfl, rfl, trivial⟩

end Go.Proofs.Ytllaijapijinoaa

namespace Go.Proofs.Ytllaijapijinoaa
open Go.Cw
set_option linter.unusedVariables false

abbrev pt (x y : Int) : AV := .ag [.int .i64 x, .int .i64 y]
def inB (x : Int) : Bool := decide (x ≥ -134217728) && decide (x ≤ 134217728)
theorem crossRight_ret (x y : Int) : Ret Try.prog 26 [] [pt x y] (.bool (inB x && inB y)) [] := by
  refine ret_of Try.func26 rfl rfl rfl ?_
  refine BM.split (fun h1 => ?_) (fun h1 => ?_)
  · refine BM.split (fun h2 => ?_) (fun h2 => ?_)
    · refine BM.split (fun h3 => ?_) (fun h3 => ?_)
      · exact ⟨eq2 (.bool (decide (y ≤ 134217728))) (by simp [inB, h1, h2, h3]) rfl, rfl, trivial⟩
      · exact ⟨eq2 (.bool false) (by simp [inB, h1, h2, h3]) rfl, rfl, trivial⟩
    · exact ⟨eq2 (.bool false) (by simp [inB, h1, h2]) rfl, rfl, trivial⟩
  · exact ⟨eq2 (.bool false) (by simp [inB, h1]) rfl, rfl, trivial⟩

end Go.Proofs.Ytllaijapijinoaa

namespace Go.Proofs.Ytllaijapijinoaa
open Go.Cw
set_option linter.unusedVariables false

def cmp3 (x y : Int) : Int := if x < y then -1 else if x > y then 1 else 0
theorem isNaN64_ret (x : Int) : Ret Try.prog 137 [] [i64 x] (.bool false) [] := by
  refine ret_of Try.func137 rfl rfl rfl ?_
  exact ⟨eq2 (.bool (x != x)) (by simp) rfl, rfl, trivial⟩
theorem isNaNu_ret (x : Int) : Ret Try.prog 138 [] [u64 x] (.bool false) [] := by
  refine ret_of Try.func138 rfl rfl rfl ?_
  exact ⟨eq2 (.bool (x != x)) (by simp) rfl, rfl, trivial⟩
theorem isNaN_ret (x : Int) : Ret Try.prog 139 [] [i64 x] (.bool false) [] := by
  refine ret_of Try.func139 rfl rfl rfl ?_
  exact ⟨eq2 (.bool (x != x)) (by simp) rfl, rfl, trivial⟩

theorem compare64_ret (x y : Int) : Ret Try.prog 113 [] [i64 x, i64 y] (i64 (cmp3 x y)) [] := by
  refine ret_of Try.func113 rfl rfl rfl ?_
  refine RC.use (isNaN64_ret _) rfl ?_
  refine RC.use (isNaN64_ret _) rfl ?_
  refine BM.split (fun h => ?_) (fun h => ?_)
  · exact ⟨eq2 (i64 (-1)) (by have : x < y := by simpa using h
                              simp [cmp3, this]) rfl, rfl, trivial⟩
  · have h1 : ¬ x < y := by simpa using h
    refine BM.split (fun h => ?_) (fun h => ?_)
    · exact ⟨eq2 (i64 1) (by have : x > y := by simpa using h
                             simp [cmp3, h1, this]) rfl, rfl, trivial⟩
    · exact ⟨eq2 (i64 0) (by have : ¬ x > y := by simpa using h
                             simp [cmp3, h1, this]) rfl, rfl, trivial⟩
theorem compareu_ret (x y : Int) : Ret Try.prog 114 [] [u64 x, u64 y] (i64 (cmp3 x y)) [] := by
  refine ret_of Try.func114 rfl rfl rfl ?_
  refine RC.use (isNaNu_ret _) rfl ?_
  refine RC.use (isNaNu_ret _) rfl ?_
  refine BM.split (fun h => ?_) (fun h => ?_)
  · exact ⟨eq2 (i64 (-1)) (by have : x < y := by simpa using h
                              simp [cmp3, this]) rfl, rfl, trivial⟩
  · have h1 : ¬ x < y := by simpa using h
    refine BM.split (fun h => ?_) (fun h => ?_)
    · exact ⟨eq2 (i64 1) (by have : x > y := by simpa using h
                             simp [cmp3, h1, this]) rfl, rfl, trivial⟩
    · exact ⟨eq2 (i64 0) (by have : ¬ x > y := by simpa using h
                             simp [cmp3, h1, this]) rfl, rfl, trivial⟩
theorem compare_ret (x y : Int) : Ret Try.prog 129 [] [i64 x, i64 y] (i64 (cmp3 x y)) [] := by
  refine ret_of Try.func129 rfl rfl rfl ?_
  refine RC.use (isNaN_ret _) rfl ?_
  refine RC.use (isNaN_ret _) rfl ?_
  refine BM.split (fun h => ?_) (fun h => ?_)
  · exact ⟨eq2 (i64 (-1)) (by have : x < y := by simpa using h
                              simp [cmp3, this]) rfl, rfl, trivial⟩
  · have h1 : ¬ x < y := by simpa using h
    refine BM.split (fun h => ?_) (fun h => ?_)
    · exact ⟨eq2 (i64 1) (by have : x > y := by simpa using h
                             simp [cmp3, h1, this]) rfl, rfl, trivial⟩
    · exact ⟨eq2 (i64 0) (by have : ¬ x > y := by simpa using h
                             simp [cmp3, h1, this]) rfl, rfl, trivial⟩

/-- cmp.Or of two numbers. -/
def orS (a b k : Int) : St := ⟨[(0, .sl none [i64 a, i64 b]), (2, i64 0), (3, i64 0), (6, .sl none [i64 a, i64 b]), (7, i64 2), (8, i64 k)], [], 0⟩
theorem or_ret (a b : Int) : Ret Try.prog 112 [] [.sl none [i64 a, i64 b]] (i64 (if a = 0 then b else a)) [] := by
  refine ret_of Try.func112 rfl rfl rfl ?_
  refine ⟨Nat, fun k => orS a b k, fun k => k ≤ 2 ∧ (1 ≤ k → a = 0) ∧ (2 ≤ k → b = 0), fun k => 2 - k, 0, [], ⟨by omega, by omega, by omega⟩, ⟨rfl, rfl, rfl, ⟨rfl, rfl, rfl, rfl, rfl, rfl, rfl, rfl, rfl, rfl, rfl, rfl, trivial⟩, trivial⟩, ?_⟩
  rintro k ⟨hk, ha, hb⟩
  have : k = 0 ∨ k = 1 ∨ k = 2 := by omega
  rcases this with rfl | rfl | rfl
  · skip
    refine BM.split (fun h => ?_) (fun h => ?_)
    · have : a ≠ 0 := by simpa using h
      exact ⟨eq2 (i64 a) (by rw [if_neg this]) rfl, rfl, trivial⟩
    · have : a = 0 := by simpa using h
      refine ⟨1, [], ⟨by omega, fun _ => this, by omega⟩, by decide, ⟨rfl, rfl, rfl, ⟨rfl, rfl, rfl, rfl, rfl, rfl, rfl, rfl, rfl, rfl, rfl, rfl, trivial⟩, trivial⟩⟩
  · have ha := ha (by omega)
    refine BM.split (fun h => ?_) (fun h => ?_)
    · exact ⟨eq2 (i64 b) (by rw [if_pos ha]) rfl, rfl, trivial⟩
    · have : b = 0 := by simpa using h
      refine ⟨2, [], ⟨by omega, fun _ => ha, fun _ => this⟩, by decide, ⟨rfl, rfl, rfl, ⟨rfl, rfl, rfl, rfl, rfl, rfl, rfl, rfl, rfl, rfl, rfl, rfl, trivial⟩, trivial⟩⟩
  · exact ⟨eq2 (i64 0) (by rw [if_pos (ha (by omega)), hb (by omega)]) rfl, rfl, trivial⟩

/-- wide.Cmp. -/
def cmpW (h1 l1 h2 l2 : Int) : Int := if cmp3 h1 h2 = 0 then cmp3 l1 l2 else cmp3 h1 h2
theorem wideCmp_raw (h1 l1 h2 l2 : Int) : Ret Try.prog 78 [] [wd2 h1 l1, wd2 h2 l2] (i64 (cmpW h1 l1 h2 l2)) [] := by
  refine ret_of Try.func78 rfl rfl rfl ?_
  refine RC.use (compare64_ret _ _) rfl ?_
  refine RC.use (compareu_ret _ _) rfl ?_
  refine RC.use (or_ret _ _) rfl ?_
  refine CL.yes (by kernel_rfl) ?_
  exact ⟨rfl, rfl, trivial⟩
theorem wideCmp_ret (m n : Int) (hm : InW m) (hn : InW n) : Ret Try.prog 78 [] [wdn m, wdn n] (i64 (cmp3 m n)) [] := by
  have e : cmpW (IntKind.wrap .i64 (m / 18446744073709551616)) (m % 18446744073709551616) (IntKind.wrap .i64 (n / 18446744073709551616)) (n % 18446744073709551616) = cmp3 m n := by
    obtain ⟨a1, a2⟩ := hm
    obtain ⟨b1, b2⟩ := hn
    simp only [cmpW, cmp3, IntKind.wrap_i64]
    repeat' split
    all_goals omega
  rw [← e]
  exact wideCmp_raw _ _ _ _
theorem planeCmp_ret (a b c d : Int) : Ret Try.prog 101 [] [.ag [i64 a, i64 b], .ag [i64 c, i64 d]] (i64 (cmpW a b c d)) [] := by
  refine ret_of Try.func101 rfl rfl rfl ?_
  refine RC.use (compare_ret _ _) rfl ?_
  refine RC.use (compare_ret _ _) rfl ?_
  refine RC.use (or_ret _ _) rfl ?_
  refine CL.yes (by kernel_rfl) ?_
  exact ⟨rfl, rfl, trivial⟩

end Go.Proofs.Ytllaijapijinoaa

namespace Go.Proofs.Ytllaijapijinoaa
open Go.Cw
set_option linter.unusedVariables false

theorem wideSize_ret (n : Int) (hn : InW n) : Ret Try.prog 107 [] [wdn n] (.tup [u64 (n.natAbs / 18446744073709551616), u64 (n.natAbs % 18446744073709551616)]) [] := by
  obtain ⟨h1, h2⟩ := hn
  refine ret_of Try.func107 rfl rfl rfl ?_
  refine BM.split (fun h => ?_) (fun h => ?_)
  · have hneg : IntKind.wrap .i64 (n / 18446744073709551616) < 0 := by simpa using h
    rw [IntKind.wrap_i64] at hneg
    refine RC.use (turn_ret n) rfl ?_
    refine CL.yes (by kernel_rfl) ?_
    exact ⟨eq2 (.tup [u64 (IntKind.wrap .u64 (IntKind.wrap .i64 (-n / 18446744073709551616))), u64 (-n % 18446744073709551616)]) (by
      simp only [u64, IntKind.wrap_u64, IntKind.wrap_i64]
      congr 4 <;> omega) rfl, rfl, trivial⟩
  · have hneg : ¬ IntKind.wrap .i64 (n / 18446744073709551616) < 0 := by simpa using h
    rw [IntKind.wrap_i64] at hneg
    refine CL.yes (by kernel_rfl) ?_
    exact ⟨eq2 (.tup [u64 (IntKind.wrap .u64 (IntKind.wrap .i64 (n / 18446744073709551616))), u64 (n % 18446744073709551616)]) (by
      simp only [u64, IntKind.wrap_u64, IntKind.wrap_i64]
      congr 4 <;> omega) rfl, rfl, trivial⟩

theorem told_yes (h l : Int) {b : Bool} (hb : b = true) : Ret Try.prog 134 [] [wd2 h l, .bool b] (.tup [wd2 h l, .bool true]) [] := by
  subst hb
  exact told_ret h l true

/-- The sum, where it fits. -/
theorem wideAdd_ret (m n : Int) (hm : InW m) (hn : InW n) (hs : InW (m + n)) : Ret Try.prog 127 [] [wdn m, wdn n] (.tup [wdn (m + n), .bool true]) [] := by
  obtain ⟨a1, a2⟩ := hm
  obtain ⟨b1, b2⟩ := hn
  obtain ⟨c1, c2⟩ := hs
  refine ret_of Try.func127 rfl rfl rfl ?_
  refine RC.use (wrap_ret m n) rfl ?_
  refine BM.split (fun h => ?_) (fun h => ?_)
  · refine RC.use (told_ret _ _ true) rfl ?_
    exact ⟨rfl, rfl, trivial⟩
  · have h : ((decide (IntKind.wrap .i64 (m / 18446744073709551616) < 0)) != (decide (IntKind.wrap .i64 (n / 18446744073709551616) < 0))) = false := h
    have hb : ((decide (IntKind.wrap .i64 (m / 18446744073709551616) < 0)) == (decide (IntKind.wrap .i64 ((m + n) / 18446744073709551616) < 0))) = true := by
      simp only [IntKind.wrap_i64, bne_eq_false_iff_eq, decide_eq_decide, beq_iff_eq] at h ⊢
      omega
    refine RC.use (told_yes _ _ hb) rfl ?_
    exact ⟨rfl, rfl, trivial⟩

/-- The number turned round, where it fits. -/
theorem wideNeg_ret (n : Int) (hn : InW n) (hm : n ≠ -170141183460469231731687303715884105728) : Ret Try.prog 141 [] [wdn n] (.tup [wdn (-n), .bool true]) [] := by
  obtain ⟨a1, a2⟩ := hn
  refine ret_of Try.func141 rfl rfl rfl ?_
  refine RC.use (turn_ret n) rfl ?_
  refine RC.use least_ret rfl ?_
  have hb : (!(IntKind.wrap .i64 (n / 18446744073709551616) == -9223372036854775808 && (n % 18446744073709551616 == 0 && true))) = true := by
    simp only [IntKind.wrap_i64, Bool.and_true, Bool.not_eq_true', Bool.and_eq_false_iff, beq_eq_false_iff_ne]
    omega
  refine RC.use (told_yes _ _ hb) rfl ?_
  refine CL.yes (by kernel_rfl) ?_
  exact ⟨rfl, rfl, trivial⟩

/-- A number by its size and its sign. -/
theorem wideSigned_ret (h l : Int) (h0 : 0 ≤ h) (h1 : h < 9223372036854775808) (l0 : 0 ≤ l) (l1 : l < 18446744073709551616) (b : Bool) :
    Ret Try.prog 109 [] [u64 h, u64 l, .bool b] (.tup [wdn (match b with | true => -(h * 18446744073709551616 + l) | false => h * 18446744073709551616 + l), .bool true]) [] := by
  have e : wd2 (IntKind.wrap .i64 h) l = wdn (h * 18446744073709551616 + l) := by
    simp only [wdn, wd2, IntKind.wrap_i64]
    congr 4
    · omega
    · omega
  have hs : (Int.fdiv h (2 ^ (min (Int.toNat 63) (IntKind.bits .u64))) == 0) = true := by
    rw [p63u, Int.fdiv_eq_ediv_of_nonneg _ (by decide), beq_iff_eq]
    omega
  refine ret_of Try.func109 rfl rfl rfl ?_
  refine BM.split (fun hb => ?_) (fun hb => ?_)
  · subst hb
    refine RC.use (turn_ret2 _ e) rfl ?_
    refine BM.yes hs ?_
    refine RC.use (told_ret _ _ true) rfl ?_
    refine CL.yes (by kernel_rfl) ?_
    exact ⟨rfl, rfl, trivial⟩
  · subst hb
    refine BM.yes hs ?_
    refine RC.use (told_ret _ _ true) rfl ?_
    refine CL.yes (by kernel_rfl) ?_
    exact ⟨eq2 (.tup [wd2 (IntKind.wrap .i64 h) l, .bool true]) (by rw [e]) rfl, rfl, trivial⟩

end Go.Proofs.Ytllaijapijinoaa

namespace Go.Proofs.Ytllaijapijinoaa
open Go.Cw
set_option linter.unusedVariables false

abbrev andE (k : IntKind) (x y : Int) : Int := k.wrap (BitVec.ofInt k.bits x &&& BitVec.ofInt k.bits y).toNat
abbrev orE (k : IntKind) (x y : Int) : Int := k.wrap (BitVec.ofInt k.bits x ||| BitVec.ofInt k.bits y).toNat
abbrev shrE (k : IntKind) (x c : Int) : Int := x.fdiv (2 ^ (min c.toNat k.bits))
theorem and_mask (n : Nat) (h : n < 18446744073709551616) : andE .u64 n 4294967295 = ((n % 4294967296 : Nat) : Int) := by
  have e : (BitVec.ofInt 64 (n : Int) &&& BitVec.ofInt 64 4294967295).toNat = n % 4294967296 := by
    rw [BitVec.toNat_and, BitVec.toNat_ofInt, BitVec.toNat_ofInt]
    have e1 : ((n : Int) % ((2 ^ 64 : Nat) : Int)).toNat = n := by omega
    have e2 : ((4294967295 : Int) % ((2 ^ 64 : Nat) : Int)).toNat = 2 ^ 32 - 1 := by decide
    rw [e1, e2, Nat.and_two_pow_sub_one_eq_mod]
  show IntKind.wrap .u64 ((BitVec.ofInt 64 (n : Int) &&& BitVec.ofInt 64 4294967295).toNat) = _
  rw [e, IntKind.wrap_u64]
  omega
theorem p32u : (2 : Int) ^ (min (Int.toNat 32) (IntKind.bits .u64)) = 4294967296 := by decide
theorem shr32 (n : Nat) : shrE .u64 n 32 = ((n / 4294967296 : Nat) : Int) := by
  unfold shrE
  rw [p32u, Int.fdiv_eq_ediv_of_nonneg _ (by decide)]
  omega
theorem wrapN (a : Nat) (ha : a < 18446744073709551616) : IntKind.wrap .u64 (a : Int) = (a : Int) := by rw [IntKind.wrap_u64]; omega

/-- Half words multiply far below 2^64. -/
theorem halves_le {a b : Nat} (ha : a < 4294967296) (hb : b < 4294967296) : a * b ≤ 18446744065119617025 :=
  Nat.le_trans (Nat.mul_le_mul (Nat.le_of_lt_succ ha) (Nat.le_of_lt_succ hb)) (by decide)
theorem words_mul (p q r s : Nat) : (4294967296 * p + q) * (4294967296 * r + s) = 18446744073709551616 * (p * r) + 4294967296 * (p * s + q * r) + q * s := by grind
/-- The upper word, out of products of half words; nothing wraps. -/
theorem upper_word (x y : Nat) (hx : x < 18446744073709551616) (hy : y < 18446744073709551616) :
    x % 4294967296 * (y % 4294967296) < 18446744073709551616 ∧
    x / 4294967296 * (y % 4294967296) + x % 4294967296 * (y % 4294967296) / 4294967296 < 18446744073709551616 ∧
    (x / 4294967296 * (y % 4294967296) + x % 4294967296 * (y % 4294967296) / 4294967296) % 4294967296 + x % 4294967296 * (y / 4294967296) < 18446744073709551616 ∧
    x / 4294967296 * (y / 4294967296) + (x / 4294967296 * (y % 4294967296) + x % 4294967296 * (y % 4294967296) / 4294967296) / 4294967296 +
      ((x / 4294967296 * (y % 4294967296) + x % 4294967296 * (y % 4294967296) / 4294967296) % 4294967296 + x % 4294967296 * (y / 4294967296)) / 4294967296 = x * y / 18446744073709551616 := by
  have e : x * y = (4294967296 * (x / 4294967296) + x % 4294967296) * (4294967296 * (y / 4294967296) + y % 4294967296) := by
    rw [Nat.div_add_mod, Nat.div_add_mod]
  rw [e, words_mul]
  have l1 := halves_le (a := x / 4294967296) (b := y / 4294967296) (by omega) (by omega)
  have l2 := halves_le (a := x / 4294967296) (b := y % 4294967296) (by omega) (by omega)
  have l3 := halves_le (a := x % 4294967296) (b := y / 4294967296) (by omega) (by omega)
  have l4 := halves_le (a := x % 4294967296) (b := y % 4294967296) (by omega) (by omega)
  generalize x / 4294967296 * (y / 4294967296) = u at *
  generalize x / 4294967296 * (y % 4294967296) = v at *
  generalize x % 4294967296 * (y / 4294967296) = w at *
  generalize x % 4294967296 * (y % 4294967296) = z at *
  omega

def mw0 (x y : Int) : Int := IntKind.wrap .u64 (andE .u64 x 4294967295 * andE .u64 y 4294967295)
def mt (x y : Int) : Int := IntKind.wrap .u64 (IntKind.wrap .u64 (shrE .u64 x 32 * andE .u64 y 4294967295) + shrE .u64 (mw0 x y) 32)
def mw1 (x y : Int) : Int := IntKind.wrap .u64 (andE .u64 (mt x y) 4294967295 + IntKind.wrap .u64 (andE .u64 x 4294967295 * shrE .u64 y 32))
def mhi (x y : Int) : Int := IntKind.wrap .u64 (IntKind.wrap .u64 (IntKind.wrap .u64 (shrE .u64 x 32 * shrE .u64 y 32) + shrE .u64 (mt x y) 32) + shrE .u64 (mw1 x y) 32)
set_option maxRecDepth 100000 in
theorem mul64_raw (x y : Int) : Ret Try.prog 143 [] [u64 x, u64 y] (.tup [u64 (mhi x y), u64 (IntKind.wrap .u64 (x * y))]) [] := by
  refine ret_of Try.func143 rfl rfl rfl ?_
  exact ⟨rfl, rfl, trivial⟩
theorem mhi_eq (x y : Nat) (hx : x < 18446744073709551616) (hy : y < 18446744073709551616) : mhi x y = ((x * y / 18446744073709551616 : Nat) : Int) := by
  obtain ⟨bd, bt, bw, hhi⟩ := upper_word x y hx hy
  have ba := halves_le (a := x / 4294967296) (b := y / 4294967296) (by omega) (by omega)
  have bb := halves_le (a := x / 4294967296) (b := y % 4294967296) (by omega) (by omega)
  have bc := halves_le (a := x % 4294967296) (b := y / 4294967296) (by omega) (by omega)
  have e0 : mw0 x y = ((x % 4294967296 * (y % 4294967296) : Nat) : Int) := by
    unfold mw0
    rw [and_mask x hx, and_mask y hy, ← Int.natCast_mul, wrapN _ bd]
  have et : mt x y = ((x / 4294967296 * (y % 4294967296) + x % 4294967296 * (y % 4294967296) / 4294967296 : Nat) : Int) := by
    unfold mt
    rw [e0, shr32, shr32, and_mask y hy, ← Int.natCast_mul, wrapN _ (by omega), ← Int.natCast_add, wrapN _ bt]
  have e1 : mw1 x y = (((x / 4294967296 * (y % 4294967296) + x % 4294967296 * (y % 4294967296) / 4294967296) % 4294967296 + x % 4294967296 * (y / 4294967296) : Nat) : Int) := by
    unfold mw1
    rw [et, and_mask _ bt, and_mask x hx, shr32, ← Int.natCast_mul, wrapN _ (by omega), ← Int.natCast_add, wrapN _ bw]
  unfold mhi
  rw [et, e1, shr32, shr32, shr32, shr32, ← Int.natCast_mul, wrapN _ (by omega), ← Int.natCast_add, wrapN _ (by omega), ← Int.natCast_add, wrapN _ (by omega), hhi]
theorem mul64_ret (x y : Nat) (hx : x < 18446744073709551616) (hy : y < 18446744073709551616) :
    Ret Try.prog 143 [] [u64 x, u64 y] (.tup [u64 ((x * y / 18446744073709551616 : Nat) : Int), u64 ((x * y % 18446744073709551616 : Nat) : Int)]) [] := by
  have h := mul64_raw x y
  have e : IntKind.wrap .u64 ((x : Int) * y) = ((x * y % 18446744073709551616 : Nat) : Int) := by rw [IntKind.wrap_u64, ← Int.natCast_mul]; omega
  rw [mhi_eq x y hx hy, e] at h
  exact h

end Go.Proofs.Ytllaijapijinoaa

namespace Go.Proofs.Ytllaijapijinoaa
open Go.Cw
set_option linter.unusedVariables false

/-- Below 2^64, one way or the other. -/
def In64 (n : Int) : Prop := -18446744073709551616 < n ∧ n < 18446744073709551616
theorem In64.w {n : Int} (h : In64 n) : InW n := by obtain ⟨a, b⟩ := h; exact ⟨by omega, by omega⟩
theorem wideSize_small (n : Int) (h : In64 n) : Ret Try.prog 107 [] [wdn n] (.tup [u64 0, u64 (n.natAbs : Int)]) [] := by
  have := wideSize_ret n h.w
  obtain ⟨a, b⟩ := h
  rw [show ((n.natAbs : Int) / 18446744073709551616) = 0 by omega, show ((n.natAbs : Int) % 18446744073709551616) = n.natAbs by omega] at this
  exact this
theorem mul64_of (x y : Nat) (hx : x < 18446744073709551616) (hy : y < 18446744073709551616) {hi lo : Int} (e1 : ((x * y / 18446744073709551616 : Nat) : Int) = hi) (e2 : ((x * y % 18446744073709551616 : Nat) : Int) = lo) :
    Ret Try.prog 143 [] [u64 x, u64 y] (.tup [u64 hi, u64 lo]) [] := by
  subst e1; subst e2; exact mul64_ret x y hx hy
theorem add64_0 (x : Int) (hx : 0 ≤ x) (hx' : x < 18446744073709551616) : Ret Try.prog 136 [] [u64 x, u64 0, u64 0] (.tup [u64 x, u64 0]) [] := by
  have := add64_ret x 0 0 hx (by omega) (by omega) (by omega)
  rw [show (x + 0 + 0) % 18446744073709551616 = x by omega, show (x + 0 + 0) / 18446744073709551616 = 0 by omega] at this
  exact this
theorem wideSigned_of (h l : Int) (h0 : 0 ≤ h) (h1 : h < 9223372036854775808) (l0 : 0 ≤ l) (l1 : l < 18446744073709551616) (b : Bool) {n : Int}
    (e : (match b with | true => -(h * 18446744073709551616 + l) | false => h * 18446744073709551616 + l) = n) :
    Ret Try.prog 109 [] [u64 h, u64 l, .bool b] (.tup [wdn n, .bool true]) [] := by
  subst e; exact wideSigned_ret h l h0 h1 l0 l1 b

set_option maxRecDepth 100000 in
theorem wideMul_ret (m n : Int) (hm : In64 m) (hn : In64 n) (hp : (m.natAbs * n.natAbs) < 170141183460469231731687303715884105728) :
    Ret Try.prog 140 [] [wdn m, wdn n] (.tup [wdn (m * n), .bool true]) [] := by
  have hmb : m.natAbs < 18446744073709551616 := by obtain ⟨a, b⟩ := hm; omega
  have hnb : n.natAbs < 18446744073709551616 := by obtain ⟨a, b⟩ := hn; omega
  refine ret_of Try.func140 rfl rfl rfl ?_
  refine RC.use (wideSize_small m hm) rfl ?_
  refine RC.use (wideSize_small n hn) rfl ?_
  refine RC.use (mul64_ret _ _ hmb hnb) rfl ?_
  refine RC.use (mul64_of 0 n.natAbs (by omega) hnb (hi := 0) (lo := 0) (by simp) (by simp)) rfl ?_
  refine RC.use (mul64_of m.natAbs 0 hmb (by omega) (hi := 0) (lo := 0) (by simp) (by simp)) rfl ?_
  refine RC.use (add64_0 _ (by omega) (by omega)) rfl ?_
  refine RC.use (add64_0 _ (by omega) (by omega)) rfl ?_
  refine RC.use (wideSigned_of _ _ (by omega) (by omega) (by omega) (by omega) ((decide (IntKind.wrap .i64 (m / 18446744073709551616) < 0)) != (decide (IntKind.wrap .i64 (n / 18446744073709551616) < 0))) (n := m * n) ?_) rfl ?_
  · have em : decide (IntKind.wrap .i64 (m / 18446744073709551616) < 0) = decide (m < 0) := by
      obtain ⟨a, b⟩ := hm
      simp only [IntKind.wrap_i64, decide_eq_decide]
      omega
    have en : decide (IntKind.wrap .i64 (n / 18446744073709551616) < 0) = decide (n < 0) := by
      obtain ⟨a, b⟩ := hn
      simp only [IntKind.wrap_i64, decide_eq_decide]
      omega
    have ep : ((m.natAbs * n.natAbs / 18446744073709551616 : Nat) : Int) * 18446744073709551616 + ((m.natAbs * n.natAbs % 18446744073709551616 : Nat) : Int) = ((m.natAbs * n.natAbs : Nat) : Int) := by omega
    rw [em, en, ep, Int.natCast_mul]
    rcases Int.lt_or_le m 0 with h1 | h1 <;> rcases Int.lt_or_le n 0 with h2 | h2
    · have a1 : (m.natAbs : Int) = -m := by omega
      have a2 : (n.natAbs : Int) = -n := by omega
      simp [h1, h2, a1, a2, Int.neg_mul, Int.mul_neg, Int.neg_neg]
    · have a1 : (m.natAbs : Int) = -m := by omega
      have a2 : (n.natAbs : Int) = n := by omega
      have h2' : ¬ n < 0 := by omega
      simp [h1, h2', a1, a2, Int.neg_mul, Int.mul_neg, Int.neg_neg]
    · have a1 : (m.natAbs : Int) = m := by omega
      have a2 : (n.natAbs : Int) = -n := by omega
      have h1' : ¬ m < 0 := by omega
      simp [h1', h2, a1, a2, Int.neg_mul, Int.mul_neg, Int.neg_neg]
    · have a1 : (m.natAbs : Int) = m := by omega
      have a2 : (n.natAbs : Int) = n := by omega
      have h1' : ¬ m < 0 := by omega
      have h2' : ¬ n < 0 := by omega
      simp [h1', h2', a1, a2]
  · exact ⟨rfl, rfl, trivial⟩

/-- A number of 64 bits. -/
def InI (n : Int) : Prop := -9223372036854775808 ≤ n ∧ n < 9223372036854775808
theorem InI.n64 {n : Int} (h : InI n) : In64 n := by obtain ⟨a, b⟩ := h; exact ⟨by omega, by omega⟩
theorem times_ret (x y : Int) (hx : InI x) (hy : InI y) : Ret Try.prog 126 [] [i64 x, i64 y] (wdn (x * y)) [] := by
  refine ret_of Try.func126 rfl rfl rfl ?_
  refine RC.use (wideOf_ret x hx.1 hx.2) rfl ?_
  refine RC.use (wideOf_ret y hy.1 hy.2) rfl ?_
  refine RC.use (wideMul_ret x y hx.n64 hy.n64 ?_) rfl ?_
  · have h1 : x.natAbs ≤ 9223372036854775808 := by obtain ⟨a, b⟩ := hx; omega
    have h2 : y.natAbs ≤ 9223372036854775808 := by obtain ⟨a, b⟩ := hy; omega
    have := Nat.mul_le_mul h1 h2
    omega
  · exact ⟨rfl, rfl, trivial⟩

end Go.Proofs.Ytllaijapijinoaa

namespace Go.Proofs.Ytllaijapijinoaa
open Go.Cw
set_option linter.unusedVariables false

theorem p1u : (2 : Int) ^ (min (Int.toNat 1) (IntKind.bits .u64)) = 2 := by decide
abbrev shlE (k : IntKind) (x c : Int) : Int := k.wrap (x * 2 ^ (min c.toNat k.bits))
theorem shl1 (n : Nat) : shlE .u64 n 1 = ((2 * n % 18446744073709551616 : Nat) : Int) := by
  unfold shlE
  rw [p1u, IntKind.wrap_u64]
  omega
theorem shr63 (n : Nat) : shrE .u64 n 63 = ((n / 9223372036854775808 : Nat) : Int) := by
  unfold shrE
  rw [p63u, Int.fdiv_eq_ediv_of_nonneg _ (by decide)]
  omega
theorem or_low (a c : Nat) (ha : 2 * a < 18446744073709551616) (hc : c < 2) : orE .u64 ((2 * a : Nat) : Int) (c : Int) = ((2 * a + c : Nat) : Int) := by
  have e : (BitVec.ofInt 64 ((2 * a : Nat) : Int) ||| BitVec.ofInt 64 (c : Int)).toNat = 2 * a + c := by
    rw [BitVec.toNat_or, BitVec.toNat_ofInt, BitVec.toNat_ofInt]
    have e1 : (((2 * a : Nat) : Int) % ((2 ^ 64 : Nat) : Int)).toNat = 2 * a := by omega
    have e2 : ((c : Int) % ((2 ^ 64 : Nat) : Int)).toNat = c := by omega
    rw [e1, e2]
    have := Nat.two_pow_add_eq_or_of_lt (i := 1) (b := c) (by omega) a
    rw [Nat.pow_one] at this
    exact this.symm
  show IntKind.wrap .u64 ((BitVec.ofInt 64 ((2 * a : Nat) : Int) ||| BitVec.ofInt 64 (c : Int)).toNat) = _
  rw [e, IntKind.wrap_u64]
  omega
theorem and_one (n : Nat) (h : n < 18446744073709551616) : andE .u64 n 1 = ((n % 2 : Nat) : Int) := by
  have e : (BitVec.ofInt 64 (n : Int) &&& BitVec.ofInt 64 1).toNat = n % 2 := by
    rw [BitVec.toNat_and, BitVec.toNat_ofInt, BitVec.toNat_ofInt]
    have e1 : ((n : Int) % ((2 ^ 64 : Nat) : Int)).toNat = n := by omega
    have e2 : ((1 : Int) % ((2 ^ 64 : Nat) : Int)).toNat = 2 ^ 1 - 1 := by decide
    rw [e1, e2, Nat.and_two_pow_sub_one_eq_mod]
  show IntKind.wrap .u64 ((BitVec.ofInt 64 (n : Int) &&& BitVec.ofInt 64 1).toNat) = _
  rw [e, IntKind.wrap_u64]
  omega
/-- Two words doubled, a bit shifted in. -/
theorem dbl_hi (r : Nat) (hr : r < 170141183460469231731687303715884105728) : orE .u64 (shlE .u64 ((r / 18446744073709551616 : Nat) : Int) 1) (shrE .u64 ((r % 18446744073709551616 : Nat) : Int) 63) = ((2 * r / 18446744073709551616 : Nat) : Int) := by
  rw [shl1, shr63, Nat.mod_eq_of_lt (by omega), or_low _ _ (by omega) (by omega)]
  congr 1
  omega
theorem dbl_lo (r c : Nat) (hc : c < 2) : orE .u64 (shlE .u64 ((r % 18446744073709551616 : Nat) : Int) 1) (c : Int) = (((2 * r + c) % 18446744073709551616 : Nat) : Int) := by
  rw [shl1, show 2 * (r % 18446744073709551616) % 18446744073709551616 = 2 * (r % 9223372036854775808) by omega, or_low _ _ (by omega) hc]
  congr 1
  omega
theorem shr_nat (n k : Nat) (hk : k ≤ 64) : shrE .u64 n k = ((n / 2 ^ k : Nat) : Int) := by
  unfold shrE
  have e : min (Int.toNat (k : Int)) (IntKind.bits .u64) = k := by show min k 64 = k; omega
  have e2 : (2 : Int) ^ k = ((2 ^ k : Nat) : Int) := by simp
  rw [e, e2, Int.fdiv_eq_ediv_of_nonneg _ (Int.natCast_nonneg _)]
  simp
theorem bit_lo (h l k : Nat) (hk : k < 64) : (h * 18446744073709551616 + l) / 2 ^ k % 2 = l / 2 ^ k % 2 := by
  have e : h * 18446744073709551616 = 2 ^ k * (2 * (h * 2 ^ (63 - k))) := by
    have : 18446744073709551616 = 2 ^ k * (2 * 2 ^ (63 - k)) := by
      rw [show 2 * 2 ^ (63 - k) = 2 ^ (64 - k) by rw [← Nat.pow_succ']; congr 1; omega, ← Nat.pow_add, show k + (64 - k) = 64 by omega]
    rw [this]
    simp [Nat.mul_comm, Nat.mul_left_comm]
  rw [e, Nat.mul_add_div (Nat.pow_pos (by decide)), Nat.add_mod, Nat.mul_mod_right]
  omega
theorem bit_hi (h l k : Nat) (hl : l < 18446744073709551616) : (h * 18446744073709551616 + l) / 2 ^ (64 + k) % 2 = h / 2 ^ k % 2 := by
  rw [Nat.pow_add, ← Nat.div_div_eq_div_mul, show (2 : Nat) ^ 64 = 18446744073709551616 by decide, show (h * 18446744073709551616 + l) / 18446744073709551616 = h by omega]

/-! ### One round -/
abbrev W64 : Nat := 18446744073709551616
def divS (h l t2 t3 : Nat) (q r : Nat) (i : Int) : St :=
  ⟨[(0, u64 h), (1, u64 l), (2, u64 t2), (3, u64 t3), (8, u64 ((q / 18446744073709551616 : Nat) : Int)), (9, u64 ((q % 18446744073709551616 : Nat) : Int)), (10, u64 ((r / 18446744073709551616 : Nat) : Int)), (11, u64 ((r % 18446744073709551616 : Nat) : Int)), (12, i64 i)], [], 0⟩
theorem sub64_of (x y b : Nat) (hx : x < 18446744073709551616) (hy : y < 18446744073709551616) (hb : b ≤ 1) {xi yi d c : Int} (ex : xi = x) (ey : yi = y) {bi : Int} (eb : bi = b) (e1 : ((x : Int) - y - b) % 18446744073709551616 = d) (e2 : (if (x : Int) < y + b then 1 else 0) = c) :
    Ret Try.prog 133 [] [u64 xi, u64 yi, u64 bi] (.tup [u64 d, u64 c]) [] := by
  subst ex; subst ey; subst eb; subst e1; subst e2
  exact sub64_ret x y b (by omega) (by omega) (by omega) (by omega) (by omega) (by omega)
/-- What a round makes of the quotient and the rest. -/
def rnd (v q r c : Nat) : Nat × Nat := if 2 * r + c < v then (2 * q, 2 * r + c) else (2 * q + 1, 2 * r + c - v)

end Go.Proofs.Ytllaijapijinoaa

namespace Go.Proofs.Ytllaijapijinoaa
open Go.Cw
set_option linter.unusedVariables false

def divT (h l t2 t3 a b c d i : Int) : St :=
  ⟨[(0, u64 h), (1, u64 l), (2, u64 t2), (3, u64 t3), (8, u64 a), (9, u64 b), (10, u64 c), (11, u64 d), (12, i64 i)], [], 0⟩
set_option maxRecDepth 100000 in
theorem divide_walk (h l t2 t3 : Int) (q8 q9 r10 r11 bit x0 x1 d0 c0 d1 c1 : Nat → Int)
    (e8 : q8 128 = 0) (e9 : q9 128 = 0) (e10 : r10 128 = 0) (e11 : r11 128 = 0)
    (hhi : ∀ n : Nat, 64 < n → n ≤ 128 → andE .u64 (shrE .u64 h (IntKind.wrap .i64 ((n : Int) - 1 - 64))) 1 = bit n)
    (hlo : ∀ n : Nat, 0 < n → n ≤ 64 → andE .u64 (shrE .u64 l (((n : Int) - 1).tmod 64)) 1 = bit n)
    (h14 : ∀ n : Nat, 0 < n → n ≤ 128 → (shrE .u64 (r10 n) 63 == 1) = false)
    (hx1 : ∀ n : Nat, 0 < n → n ≤ 128 → orE .u64 (shlE .u64 (r10 n) 1) (shrE .u64 (r11 n) 63) = x1 n)
    (hx0 : ∀ n : Nat, 0 < n → n ≤ 128 → orE .u64 (shlE .u64 (r11 n) 1) (bit n) = x0 n)
    (sub0 : ∀ n : Nat, 0 < n → n ≤ 128 → Ret Try.prog 133 [] [u64 (x0 n), u64 t3, u64 0] (.tup [u64 (d0 n), u64 (c0 n)]) [])
    (sub1 : ∀ n : Nat, 0 < n → n ≤ 128 → Ret Try.prog 133 [] [u64 (x1 n), u64 t2, u64 (c0 n)] (.tup [u64 (d1 n), u64 (c1 n)]) [])
    (take8 : ∀ n : Nat, 0 < n → n ≤ 128 → orE .u64 (shlE .u64 (q8 n) 1) (shrE .u64 (q9 n) 63) = q8 (n - 1))
    (take : ∀ n : Nat, 0 < n → n ≤ 128 → (c1 n == 0) = true → orE .u64 (shlE .u64 (q9 n) 1) 1 = q9 (n - 1) ∧ d1 n = r10 (n - 1) ∧ d0 n = r11 (n - 1))
    (stay : ∀ n : Nat, 0 < n → n ≤ 128 → (c1 n == 0) = false → shlE .u64 (q9 n) 1 = q9 (n - 1) ∧ x1 n = r10 (n - 1) ∧ x0 n = r11 (n - 1)) :
    Ret Try.prog 108 [] [u64 h, u64 l, u64 t2, u64 t3] (.tup [u64 (q8 0), u64 (q9 0), u64 (r10 0), u64 (r11 0)]) [] := by
  refine ret_of Try.func108 rfl rfl rfl ?_
  refine ⟨Nat, fun n => divT h l t2 t3 (q8 n) (q9 n) (r10 n) (r11 n) ((n : Int) - 1), fun n => n ≤ 128, fun n => n, 128, [], Nat.le_refl _, ⟨rfl, rfl, rfl, ⟨rfl, rfl, rfl, rfl, rfl, rfl, rfl, rfl,
    (show u64 0 = u64 (q8 128) by rw [e8]), rfl, (show u64 0 = u64 (q9 128) by rw [e9]), rfl, (show u64 0 = u64 (r10 128) by rw [e10]), rfl, (show u64 0 = u64 (r11 128) by rw [e11]), rfl, rfl, rfl, trivial⟩, trivial⟩, ?_⟩
  intro n hn
  refine BM.split (fun hb => ?_) (fun hb => ?_)
  · have hn0 : 0 < n := by have : (n : Int) - 1 ≥ 0 := by simpa using hb
                           omega
    have ei : IntKind.wrap .i64 ((n : Int) - 1 - 1) = ((n - 1 : Nat) : Int) - 1 := by rw [IntKind.wrap_i64]; omega
    refine BM.no (by simp only [decide_eq_false_iff_not, Int.not_lt]; exact Int.tmod_nonneg _ (by omega)) ?_
    refine BM.split (fun h6 => ?_) (fun h6 => ?_)
    · have h64 : 64 < n := by have : (n : Int) - 1 ≥ 64 := by simpa using h6
                              omega
      refine BM.no (by rw [IntKind.wrap_i64]; simp only [decide_eq_false_iff_not]; omega) ?_
      refine .inl ⟨.tup [u64 (d0 n), u64 (c0 n)], ?_, rfl, ?_⟩
      · have := sub0 n hn0 hn
        rw [← hx0 n hn0 hn, ← hhi n h64 hn] at this
        exact this
      refine .inl ⟨.tup [u64 (d1 n), u64 (c1 n)], ?_, rfl, ?_⟩
      · have := sub1 n hn0 hn
        rw [← hx1 n hn0 hn] at this
        exact this
      refine BM.split (fun h => ?_) (fun _ => ?_)
      · exact absurd (h.symm.trans (h14 n hn0 hn)) (by decide)
      refine BM.split (fun hc => ?_) (fun hc => ?_)
      · have e := take n hn0 hn hc
        exact ⟨n - 1, [], (show n - 1 ≤ 128 by omega), (show n - 1 < n by omega), ⟨rfl, rfl, rfl, ⟨rfl, rfl, rfl, rfl, rfl, rfl, rfl, rfl,
          congrArg (AV.int .u64) (take8 n hn0 hn), rfl, congrArg (AV.int .u64) e.1, rfl,
          congrArg (AV.int .u64) e.2.1, rfl, congrArg (AV.int .u64) e.2.2, rfl,
          congrArg (AV.int .i64) ei, rfl, trivial⟩, trivial⟩⟩
      · have e := stay n hn0 hn hc
        have hb0 : orE .u64 (shlE .u64 (r11 n) 1) (andE .u64 (shrE .u64 h (IntKind.wrap .i64 ((n : Int) - 1 - 64))) 1) = x0 n := by rw [hhi n h64 hn, hx0 n hn0 hn]
        exact ⟨n - 1, [], (show n - 1 ≤ 128 by omega), (show n - 1 < n by omega), ⟨rfl, rfl, rfl, ⟨rfl, rfl, rfl, rfl, rfl, rfl, rfl, rfl,
          congrArg (AV.int .u64) (take8 n hn0 hn), rfl, congrArg (AV.int .u64) e.1, rfl,
          congrArg (AV.int .u64) ((hx1 n hn0 hn).trans e.2.1), rfl, congrArg (AV.int .u64) (hb0.trans e.2.2), rfl,
          congrArg (AV.int .i64) ei, rfl, trivial⟩, trivial⟩⟩
    · have h64 : n ≤ 64 := by have : ¬ (n : Int) - 1 ≥ 64 := by simpa using h6
                              omega
      refine .inl ⟨.tup [u64 (d0 n), u64 (c0 n)], ?_, rfl, ?_⟩
      · have := sub0 n hn0 hn
        rw [← hx0 n hn0 hn, ← hlo n hn0 h64] at this
        exact this
      refine .inl ⟨.tup [u64 (d1 n), u64 (c1 n)], ?_, rfl, ?_⟩
      · have := sub1 n hn0 hn
        rw [← hx1 n hn0 hn] at this
        exact this
      refine BM.split (fun h => ?_) (fun _ => ?_)
      · exact absurd (h.symm.trans (h14 n hn0 hn)) (by decide)
      refine BM.split (fun hc => ?_) (fun hc => ?_)
      · have e := take n hn0 hn hc
        exact ⟨n - 1, [], (show n - 1 ≤ 128 by omega), (show n - 1 < n by omega), ⟨rfl, rfl, rfl, ⟨rfl, rfl, rfl, rfl, rfl, rfl, rfl, rfl,
          congrArg (AV.int .u64) (take8 n hn0 hn), rfl, congrArg (AV.int .u64) e.1, rfl,
          congrArg (AV.int .u64) e.2.1, rfl, congrArg (AV.int .u64) e.2.2, rfl,
          congrArg (AV.int .i64) ei, rfl, trivial⟩, trivial⟩⟩
      · have e := stay n hn0 hn hc
        have hb0 : orE .u64 (shlE .u64 (r11 n) 1) (andE .u64 (shrE .u64 l (((n : Int) - 1).tmod 64)) 1) = x0 n := by rw [hlo n hn0 h64, hx0 n hn0 hn]
        exact ⟨n - 1, [], (show n - 1 ≤ 128 by omega), (show n - 1 < n by omega), ⟨rfl, rfl, rfl, ⟨rfl, rfl, rfl, rfl, rfl, rfl, rfl, rfl,
          congrArg (AV.int .u64) (take8 n hn0 hn), rfl, congrArg (AV.int .u64) e.1, rfl,
          congrArg (AV.int .u64) ((hx1 n hn0 hn).trans e.2.1), rfl, congrArg (AV.int .u64) (hb0.trans e.2.2), rfl,
          congrArg (AV.int .i64) ei, rfl, trivial⟩, trivial⟩⟩
  · have : n = 0 := by have : ¬ (n : Int) - 1 ≥ 0 := by simpa using hb
                       omega
    subst this
    exact ⟨rfl, rfl, trivial⟩

end Go.Proofs.Ytllaijapijinoaa

namespace Go.Proofs.Ytllaijapijinoaa
open Go.Cw
set_option linter.unusedVariables false

theorem div_step (E v : Nat) (hv : 0 < v) :
    (2 * (E / 2 % v) + E % 2 < v → E / v = 2 * (E / 2 / v) ∧ E % v = 2 * (E / 2 % v) + E % 2) ∧
    (v ≤ 2 * (E / 2 % v) + E % 2 → E / v = 2 * (E / 2 / v) + 1 ∧ E % v = 2 * (E / 2 % v) + E % 2 - v) := by
  have e1 := Nat.div_add_mod (E / 2) v
  have e2 := Nat.mod_lt (E / 2) hv
  generalize E / 2 / v = q at *
  generalize E / 2 % v = r at *
  have e3 : v * (2 * q) = 2 * (v * q) := Nat.mul_left_comm v 2 q
  constructor
  · intro h
    refine (Nat.div_mod_unique hv).2 ⟨?_, h⟩
    rw [e3]; omega
  · intro h
    refine (Nat.div_mod_unique hv).2 ⟨?_, by omega⟩
    rw [Nat.mul_add, e3]; omega
theorem half_pow (D n : Nat) (hn : 0 < n) : D / 2 ^ n = D / 2 ^ (n - 1) / 2 := by
  rw [Nat.div_div_eq_div_mul, ← Nat.pow_succ]
  congr 2
  omega
theorem half_lt (D n : Nat) (hn : 0 < n) (hD : D < 340282366920938463463374607431768211456) : D / 2 ^ n < 170141183460469231731687303715884105728 := by
  have h : 2 ≤ 2 ^ n := by
    have := Nat.pow_le_pow_right (show 0 < 2 by decide) hn
    simpa using this
  rw [Nat.div_lt_iff_lt_mul (by omega)]
  calc D < 170141183460469231731687303715884105728 * 2 := hD
    _ ≤ _ := Nat.mul_le_mul_left _ h

theorem divide_ret (h l v : Nat) (hh : h < 18446744073709551616) (hl : l < 18446744073709551616) (hv : 0 < v) (hv2 : v < 170141183460469231731687303715884105728) :
    Ret Try.prog 108 [] [u64 h, u64 l, u64 ((v / 18446744073709551616 : Nat) : Int), u64 ((v % 18446744073709551616 : Nat) : Int)]
      (.tup [u64 (((h * 18446744073709551616 + l) / v / 18446744073709551616 : Nat) : Int), u64 (((h * 18446744073709551616 + l) / v % 18446744073709551616 : Nat) : Int),
        u64 (((h * 18446744073709551616 + l) % v / 18446744073709551616 : Nat) : Int), u64 (((h * 18446744073709551616 + l) % v % 18446744073709551616 : Nat) : Int)]) [] := by
  obtain ⟨D, hD⟩ : ∃ D, D = h * 18446744073709551616 + l := ⟨_, rfl⟩
  rw [← hD]
  have hDl : D < 340282366920938463463374607431768211456 := by omega
  obtain ⟨Q, hQ⟩ : ∃ Q : Nat → Nat, Q = fun n => D / 2 ^ n / v := ⟨_, rfl⟩
  obtain ⟨R, hR⟩ : ∃ R : Nat → Nat, R = fun n => D / 2 ^ n % v := ⟨_, rfl⟩
  obtain ⟨B, hB⟩ : ∃ B : Nat → Nat, B = fun n => D / 2 ^ (n - 1) % 2 := ⟨_, rfl⟩
  obtain ⟨X, hX⟩ : ∃ X : Nat → Nat, X = fun n => 2 * R n + B n := ⟨_, rfl⟩
  have Rlt : ∀ n, R n < v := fun n => by rw [hR]; exact Nat.mod_lt _ hv
  have Blt : ∀ n, B n < 2 := fun n => by rw [hB]; exact Nat.mod_lt _ (by decide)
  have Qlt : ∀ n, 0 < n → Q n < 170141183460469231731687303715884105728 := fun n hn => by
    rw [hQ]; exact Nat.lt_of_le_of_lt (Nat.div_le_self _ _) (half_lt D n hn hDl)
  have stepLt : ∀ n, 0 < n → X n < v → Q (n - 1) = 2 * Q n ∧ R (n - 1) = X n := fun n hn hx => by
    have := (div_step (D / 2 ^ (n - 1)) v hv).1
    rw [← half_pow D n hn] at this
    subst hX hQ hR hB
    exact this hx
  have stepLe : ∀ n, 0 < n → v ≤ X n → Q (n - 1) = 2 * Q n + 1 ∧ R (n - 1) = X n - v := fun n hn hx => by
    have := (div_step (D / 2 ^ (n - 1)) v hv).2
    rw [← half_pow D n hn] at this
    subst hX hQ hR hB
    exact this hx
  have Xe : ∀ n, X n = 2 * R n + B n := fun n => by rw [hX]
  have p128 : D / 2 ^ 128 = 0 := Nat.div_eq_of_lt (by rw [show (2 : Nat) ^ 128 = 340282366920938463463374607431768211456 by decide]; exact hDl)
  have Q128 : Q 128 = 0 := by rw [hQ]; show D / 2 ^ 128 / v = 0; rw [p128]; exact Nat.zero_div _
  have R128 : R 128 = 0 := by rw [hR]; show D / 2 ^ 128 % v = 0; rw [p128]; exact Nat.zero_mod _
  have Q0 : Q 0 = D / v := by rw [hQ]; show D / 2 ^ 0 / v = _; rw [Nat.pow_zero, Nat.div_one]
  have R0 : R 0 = D % v := by rw [hR]; show D / 2 ^ 0 % v = _; rw [Nat.pow_zero, Nat.div_one]
  rw [← Q0, ← R0]
  have Bhi : ∀ n : Nat, 64 < n → n ≤ 128 → andE .u64 (shrE .u64 h (IntKind.wrap .i64 ((n : Int) - 1 - 64))) 1 = (B n : Int) := fun n h1 h2 => by
    have e : IntKind.wrap .i64 ((n : Int) - 1 - 64) = ((n - 65 : Nat) : Int) := by rw [IntKind.wrap_i64]; omega
    rw [e, shr_nat _ _ (by omega), and_one _ (Nat.lt_of_le_of_lt (Nat.div_le_self _ _) hh), hB]
    show _ = ((D / 2 ^ (n - 1) % 2 : Nat) : Int)
    rw [hD, show n - 1 = 64 + (n - 65) by omega, bit_hi _ _ _ hl]
  have Blo : ∀ n : Nat, 0 < n → n ≤ 64 → andE .u64 (shrE .u64 l (((n : Int) - 1).tmod 64)) 1 = (B n : Int) := fun n h1 h2 => by
    have e : ((n : Int) - 1).tmod 64 = ((n - 1 : Nat) : Int) := by rw [Int.tmod_eq_emod_of_nonneg (by omega)]; omega
    rw [e, shr_nat _ _ (by omega), and_one _ (Nat.lt_of_le_of_lt (Nat.div_le_self _ _) hl), hB]
    show _ = ((D / 2 ^ (n - 1) % 2 : Nat) : Int)
    rw [hD, bit_lo _ _ _ (by omega)]
  clear hB hX hR hQ p128 hDl Q0 R0 hD
  clear D
  have key := divide_walk (h : Int) (l : Int) ((v / 18446744073709551616 : Nat) : Int) ((v % 18446744073709551616 : Nat) : Int)
    (fun n => ((Q n / 18446744073709551616 : Nat) : Int)) (fun n => ((Q n % 18446744073709551616 : Nat) : Int))
    (fun n => ((R n / 18446744073709551616 : Nat) : Int)) (fun n => ((R n % 18446744073709551616 : Nat) : Int))
    (fun n => (B n : Int)) (fun n => ((X n % 18446744073709551616 : Nat) : Int)) (fun n => ((X n / 18446744073709551616 : Nat) : Int))
    (fun n => (((X n % 18446744073709551616 : Nat) : Int) - ((v % 18446744073709551616 : Nat) : Int)) % 18446744073709551616)
    (fun n => if X n % 18446744073709551616 < v % 18446744073709551616 then 1 else 0)
    (fun n => (((X n / 18446744073709551616 : Nat) : Int) - ((v / 18446744073709551616 : Nat) : Int) - (if X n % 18446744073709551616 < v % 18446744073709551616 then 1 else 0)) % 18446744073709551616)
    (fun n => if X n < v then 1 else 0)
    (by simp [Q128]) (by simp [Q128]) (by simp [R128]) (by simp [R128]) Bhi Blo
    (fun n h1 h2 => by
      have := Rlt n
      show (shrE .u64 ((R n / 18446744073709551616 : Nat) : Int) 63 == 1) = false
      rw [shr63, beq_eq_false_iff_ne]
      omega)
    (fun n h1 h2 => by
      have := Rlt n; have := Blt n
      show orE .u64 (shlE .u64 ((R n / 18446744073709551616 : Nat) : Int) 1) (shrE .u64 ((R n % 18446744073709551616 : Nat) : Int) 63) = _
      rw [dbl_hi _ (by omega), Xe]
      congr 1
      omega)
    (fun n h1 h2 => by
      have := Blt n
      show orE .u64 (shlE .u64 ((R n % 18446744073709551616 : Nat) : Int) 1) (B n : Int) = _
      rw [dbl_lo _ _ this, Xe])
    (fun n h1 h2 => by
      exact sub64_of (X n % 18446744073709551616) (v % 18446744073709551616) 0 (by omega) (by omega) (by omega) rfl rfl rfl (by simp) (by
        by_cases hc : X n % 18446744073709551616 < v % 18446744073709551616
        · rw [if_pos (by omega)]; exact (if_pos hc).symm
        · rw [if_neg (by omega)]; exact (if_neg hc).symm))
    (fun n h1 h2 => by
      have := Rlt n; have := Blt n; have := Xe n
      by_cases hc : X n % 18446744073709551616 < v % 18446744073709551616
      · exact sub64_of (X n / 18446744073709551616) (v / 18446744073709551616) 1 (by omega) (by omega) (by omega) rfl rfl (if_pos hc) (by simp only [if_pos hc]; rfl) (by
          by_cases hv : X n < v
          · rw [if_pos (by omega)]; exact (if_pos hv).symm
          · rw [if_neg (by omega)]; exact (if_neg hv).symm)
      · exact sub64_of (X n / 18446744073709551616) (v / 18446744073709551616) 0 (by omega) (by omega) (by omega) rfl rfl (if_neg hc) (by simp only [if_neg hc]; rfl) (by
          by_cases hv : X n < v
          · rw [if_pos (by omega)]; exact (if_pos hv).symm
          · rw [if_neg (by omega)]; exact (if_neg hv).symm))
    (fun n h1 h2 => by
      have := Qlt n h1
      show orE .u64 (shlE .u64 ((Q n / 18446744073709551616 : Nat) : Int) 1) (shrE .u64 ((Q n % 18446744073709551616 : Nat) : Int) 63) = ((Q (n - 1) / 18446744073709551616 : Nat) : Int)
      rw [dbl_hi _ this]
      rcases Nat.lt_or_ge (X n) v with hx | hx
      · rw [(stepLt n h1 hx).1]
      · rw [(stepLe n h1 hx).1]; congr 1; omega)
    (fun n h1 h2 hc => by
      have hx : v ≤ X n := by
        rcases Nat.lt_or_ge (X n) v with hx | hx
        · simp [hx] at hc
        · exact hx
      have e1 := (stepLe n h1 hx).1
      have e2 := (stepLe n h1 hx).2
      have := Rlt n; have := Blt n; have := Xe n
      refine ⟨?_, ?_, ?_⟩
      · show orE .u64 (shlE .u64 ((Q n % 18446744073709551616 : Nat) : Int) 1) ((1 : Nat) : Int) = ((Q (n - 1) % 18446744073709551616 : Nat) : Int)
        rw [dbl_lo _ 1 (by omega), e1]
      · show (((X n / 18446744073709551616 : Nat) : Int) - ((v / 18446744073709551616 : Nat) : Int) - (if X n % 18446744073709551616 < v % 18446744073709551616 then 1 else 0)) % 18446744073709551616 = ((R (n - 1) / 18446744073709551616 : Nat) : Int)
        rw [e2]
        split <;> omega
      · show (((X n % 18446744073709551616 : Nat) : Int) - ((v % 18446744073709551616 : Nat) : Int)) % 18446744073709551616 = ((R (n - 1) % 18446744073709551616 : Nat) : Int)
        rw [e2]
        omega)
    (fun n h1 h2 hc => by
      have hx : X n < v := by
        rcases Nat.lt_or_ge (X n) v with hx | hx
        · exact hx
        · have : ¬ X n < v := by omega
          simp [this] at hc
      have e1 := (stepLt n h1 hx).1
      have e2 := (stepLt n h1 hx).2
      refine ⟨?_, ?_, ?_⟩
      · show shlE .u64 ((Q n % 18446744073709551616 : Nat) : Int) 1 = ((Q (n - 1) % 18446744073709551616 : Nat) : Int)
        rw [shl1, e1]
        congr 1
        omega
      · show ((X n / 18446744073709551616 : Nat) : Int) = ((R (n - 1) / 18446744073709551616 : Nat) : Int)
        rw [e2]
      · show ((X n % 18446744073709551616 : Nat) : Int) = ((R (n - 1) % 18446744073709551616 : Nat) : Int)
        rw [e2])
  exact key

end Go.Proofs.Ytllaijapijinoaa

namespace Go.Proofs.Ytllaijapijinoaa
set_option linter.unusedVariables false

structure Pt where
  x : Int
  y : Int
deriving DecidableEq
abbrev Pt.av (p : Pt) : Go.Cw.AV := pt p.x p.y
def rt (p : Pt) : Bool := inB p.x && inB p.y
theorem inB_iff (x : Int) : inB x = true ↔ -134217728 ≤ x ∧ x ≤ 134217728 := by
  simp [inB]
theorem rt_iff (p : Pt) : rt p = true ↔ (-134217728 ≤ p.x ∧ p.x ≤ 134217728) ∧ (-134217728 ≤ p.y ∧ p.y ≤ 134217728) := by
  simp only [rt, Bool.and_eq_true, inB_iff]
theorem Pt.eq_iff (p q : Pt) : p = q ↔ p.x = q.x ∧ p.y = q.y := by
  cases p; cases q; simp
/-- Twice the area of a triangle. -/
def crs (o a b : Pt) : Int := (a.x - o.x) * (b.y - o.y) - (a.y - o.y) * (b.x - o.x)
inductive MT where
  | no
  | place (xn xd yn yd : Int)
  | along (p q : Pt)
def nrmN (n d : Int) : Int := if d > 0 then n else -n
def nrmD (d : Int) : Int := if d > 0 then d else -d
def within (n d : Int) : Bool := if d < 0 then decide (-n ≥ 0) && decide (-n ≤ -d) else decide (n ≥ 0) && decide (n ≤ d)
def partN (a b n d : Int) : Int := nrmN (a * d + (b - a) * n) d
def linesF (a b : Pt) (n m d : Int) : MT :=
  if within n d && within m d then .place (partN a.x b.x n d) (nrmD d) (partN a.y b.y n d) (nrmD d) else .no
def atF (p : Pt) : MT := .place p.x 1 p.y 1
def pcmp (a b : Pt) : Int := cmpW a.x a.y b.x b.y
def lo (a b : Pt) : Pt := if pcmp a b > 0 then b else a
def hi (a b : Pt) : Pt := if pcmp a b > 0 then a else b
def rowL (a c : Pt) : Pt := if pcmp a c < 0 then c else a
def rowH (b d : Pt) : Pt := if pcmp b d > 0 then d else b
def rowG (l h : Pt) : MT := if pcmp l h = 0 then atF l else if pcmp l h = 1 then .no else .along l h
def rowF (a b c d : Pt) : MT := rowG (rowL (lo a b) (lo c d)) (rowH (hi a b) (hi c d))
def holdsF (a b p : Pt) : Bool := decide (p.x ≥ min a.x b.x) && (decide (p.x ≤ max a.x b.x) && (decide (p.y ≥ min a.y b.y) && decide (p.y ≤ max a.y b.y)))
def onF (p a b : Pt) : Bool := decide (crs a b p = 0) && holdsF a b p
def parG (a b c d : Pt) : MT :=
  if a = b ∧ onF a c d = true then atF a
  else if a = b ∨ crs c d a ≠ 0 then .no
  else if c = d ∧ onF c a b = true then atF c
  else if c = d ∨ crs a b c ≠ 0 then .no
  else rowF a b c d
def meetG (a b c d : Pt) : MT :=
  if crs c d a ≠ crs c d b then linesF a b (crs c d a) (-crs a b c) (crs c d a - crs c d b) else parG a b c d
def meetF (a b c d : Pt) : MT := if rt a && (rt b && (rt c && rt d)) then meetG a b c d else .no

/-! ### The order of points -/
theorem pcmp_cases (a b : Pt) : (pcmp a b = -1 ∧ (a.x < b.x ∨ a.x = b.x ∧ a.y < b.y)) ∨ (pcmp a b = 0 ∧ a.x = b.x ∧ a.y = b.y) ∨ (pcmp a b = 1 ∧ (b.x < a.x ∨ a.x = b.x ∧ b.y < a.y)) := by
  unfold pcmp cmpW cmp3
  repeat' split
  all_goals omega
theorem pcmp_zero (a b : Pt) : pcmp a b = 0 ↔ a = b := by
  rw [Pt.eq_iff]
  have := pcmp_cases a b
  omega
theorem lo_comm (a b : Pt) : lo b a = lo a b := by
  unfold lo
  have h1 := pcmp_cases a b
  have h2 := pcmp_cases b a
  have h3 := Pt.eq_iff a b
  split <;> split
  · omega
  · rfl
  · rfl
  · exact (h3.2 (by omega)).symm
theorem hi_comm (a b : Pt) : hi b a = hi a b := by
  unfold hi
  have h1 := pcmp_cases a b
  have h2 := pcmp_cases b a
  have h3 := Pt.eq_iff a b
  split <;> split
  · omega
  · rfl
  · rfl
  · exact (h3.2 (by omega))
theorem rowL_comm (a b : Pt) : rowL b a = rowL a b := by
  unfold rowL
  have h1 := pcmp_cases a b
  have h2 := pcmp_cases b a
  have h3 := Pt.eq_iff a b
  split <;> split
  · omega
  · rfl
  · rfl
  · exact (h3.2 (by omega)).symm
theorem rowH_comm (a b : Pt) : rowH b a = rowH a b := by
  unfold rowH
  have h1 := pcmp_cases a b
  have h2 := pcmp_cases b a
  have h3 := Pt.eq_iff a b
  split <;> split
  · omega
  · rfl
  · rfl
  · exact (h3.2 (by omega)).symm

theorem rowF_ab (a b c d : Pt) : rowF b a c d = rowF a b c d := by unfold rowF; rw [lo_comm, hi_comm]
theorem rowF_cd (a b c d : Pt) : rowF a b d c = rowF a b c d := by unfold rowF; rw [lo_comm c d, hi_comm c d]
theorem rowF_sw (a b c d : Pt) : rowF c d a b = rowF a b c d := by unfold rowF; rw [rowL_comm, rowH_comm]

theorem crs_det (a b c d : Pt) : crs a b d - crs a b c = crs c d a - crs c d b := by simp only [crs]; grind
theorem crs_ab (a b c : Pt) : crs b a c = -crs a b c := by simp only [crs]; grind
theorem crs_aab (a b : Pt) : crs a a b = 0 := by simp only [crs]; grind
theorem crs_aba (a b : Pt) : crs a b a = 0 := by simp only [crs]; grind
theorem crs_abb (a b : Pt) : crs a b b = 0 := by simp only [crs]; grind
theorem holds_ab (a b p : Pt) : holdsF b a p = holdsF a b p := by
  unfold holdsF
  rw [Int.min_comm, Int.max_comm, Int.min_comm b.y, Int.max_comm b.y]
theorem on_ab (p a b : Pt) : onF p b a = onF p a b := by
  unfold onF
  rw [holds_ab, crs_ab a b]
  congr 1
  rw [decide_eq_decide]
  omega

theorem lines_eq {a b a' b' : Pt} {n m d n' m' d' : Int} (hd : d ≠ 0) (e : d' = -d) (hw : (within n' d' && within m' d') = (within n d && within m d))
    (hx : a'.x * d' + (b'.x - a'.x) * n' = -(a.x * d + (b.x - a.x) * n)) (hy : a'.y * d' + (b'.y - a'.y) * n' = -(a.y * d + (b.y - a.y) * n)) :
    linesF a' b' n' m' d' = linesF a b n m d := by
  unfold linesF
  rw [hw]
  split
  · have e1 : partN a'.x b'.x n' d' = partN a.x b.x n d := by
      unfold partN
      rw [hx]
      unfold nrmN
      split <;> split <;> omega
    have e2 : partN a'.y b'.y n' d' = partN a.y b.y n d := by
      unfold partN
      rw [hy]
      unfold nrmN
      split <;> split <;> omega
    have e3 : nrmD d' = nrmD d := by
      unfold nrmD
      split <;> split <;> omega
    rw [e1, e2, e3]
  · rfl
theorem within_neg (n d : Int) (hd : d ≠ 0) : within (-n) (-d) = within n d := by
  unfold within
  split <;> split <;> first | omega | simp
theorem within_co (n m d : Int) (hd : d ≠ 0) (e : m = d - n) : within m d = within n d := by
  subst e
  unfold within
  split
  · rw [← Bool.decide_and, ← Bool.decide_and, decide_eq_decide]; omega
  · rw [← Bool.decide_and, ← Bool.decide_and, decide_eq_decide]; omega

theorem parG_ab (a b c d : Pt) (h : crs c d a = crs c d b) : parG b a c d = parG a b c d := by
  by_cases hab : a = b
  · subst hab; rfl
  · have hba : ¬ b = a := fun e => hab e.symm
    simp only [parG, hab, hba, false_and, if_false, false_or, on_ab c a b, rowF_ab, crs_ab a b c, ← h, ne_eq, Int.neg_eq_zero]
theorem parG_cd (a b c d : Pt) (h : crs c d a = crs c d b) : parG a b d c = parG a b c d := by
  have e := crs_det a b c d
  have e2 : crs a b d = crs a b c := by omega
  by_cases hcd : c = d
  · subst hcd; rfl
  · have hdc : ¬ d = c := fun e => hcd e.symm
    simp only [parG, hcd, hdc, false_and, if_false, false_or, on_ab a c d, rowF_cd, crs_ab c d a, e2, ne_eq, Int.neg_eq_zero]
theorem parG_sw (a b c d : Pt) (h : crs c d a = crs c d b) : parG c d a b = parG a b c d := by
  by_cases hab : a = b
  · subst hab
    have e1 := crs_aab a c
    by_cases hcd : c = d
    · subst hcd
      have e2 := crs_aab c a
      by_cases ho : onF a c c = true
      · have e3 : a = c := by
          rw [Pt.eq_iff]
          simp only [onF, holdsF, Bool.and_eq_true, decide_eq_true_eq] at ho
          omega
        subst e3; rfl
      · have ho2 : ¬ onF c a a = true := fun ho2 => ho (by
          have e3 : a = c := by
            rw [Pt.eq_iff]
            simp only [onF, holdsF, Bool.and_eq_true, decide_eq_true_eq] at ho2
            omega
          subst e3; exact ho2)
        simp [parG, ho, ho2]
    · simp only [parG, hcd, e1, false_and, if_false, false_or, ne_eq, not_true_eq_false, true_and, true_or, if_true]
  · by_cases hcd : c = d
    · subst hcd
      have e2 := crs_aab c a
      simp only [parG, hab, e2, false_and, if_false, false_or, ne_eq, not_true_eq_false, true_and, true_or, if_true]
    · simp only [parG, hab, hcd, false_and, if_false, false_or, rowF_sw]
      by_cases h1 : crs c d a = 0 <;> by_cases h2 : crs a b c = 0 <;> simp [h1, h2]

theorem meetG_ab (a b c d : Pt) : meetG b a c d = meetG a b c d := by
  unfold meetG
  by_cases h : crs c d a = crs c d b
  · rw [if_neg (fun e => e h.symm), if_neg (fun e => e h), parG_ab a b c d h]
  · have hr : ¬ crs c d b = crs c d a := fun e => h e.symm
    rw [if_pos hr, if_pos h, crs_ab a b c]
    refine lines_eq (by omega) (by omega) ?_ ?_ ?_
    · have e1 : within (crs c d b) (crs c d b - crs c d a) = within (crs c d a) (crs c d a - crs c d b) := by
        rw [← within_neg (crs c d b) _ (by omega)]
        rw [show -(crs c d b - crs c d a) = crs c d a - crs c d b by omega]
        exact within_co _ _ _ (by omega) (by omega)
      have e2 : within (- -crs a b c) (crs c d b - crs c d a) = within (-crs a b c) (crs c d a - crs c d b) := by
        rw [← within_neg (-crs a b c) _ (by omega)]
        rw [show -(crs c d a - crs c d b) = crs c d b - crs c d a by omega]
      rw [e1, e2]
    · grind
    · grind
theorem meetG_cd (a b c d : Pt) : meetG a b d c = meetG a b c d := by
  unfold meetG
  rw [crs_ab c d a, crs_ab c d b]
  by_cases h : crs c d a = crs c d b
  · rw [if_neg (fun e => e (by rw [h])), if_neg (fun e => e h), parG_cd a b c d h]
  · have hr : ¬ -crs c d a = -crs c d b := by omega
    rw [if_pos hr, if_pos h]
    have e := crs_det a b c d
    refine lines_eq (by omega) (by omega) ?_ ?_ ?_
    · have e1 : within (-crs c d a) (-crs c d a - -crs c d b) = within (crs c d a) (crs c d a - crs c d b) := by
        rw [← within_neg (crs c d a) _ (by omega)]
        rw [show -(crs c d a - crs c d b) = -crs c d a - -crs c d b by omega]
      have e2 : within (-crs a b d) (-crs c d a - -crs c d b) = within (-crs a b c) (crs c d a - crs c d b) := by
        rw [← within_neg (-crs a b d) _ (by omega)]
        rw [show -(-crs c d a - -crs c d b) = crs c d a - crs c d b by omega]
        exact within_co _ _ _ (by omega) (by omega)
      rw [e1, e2]
    · grind
    · grind
theorem lines_x (a b c d : Pt) : c.x * (crs a b c - crs a b d) + (d.x - c.x) * crs a b c = -(a.x * (crs c d a - crs c d b) + (b.x - a.x) * crs c d a) := by
  simp only [crs]; grind
theorem lines_y (a b c d : Pt) : c.y * (crs a b c - crs a b d) + (d.y - c.y) * crs a b c = -(a.y * (crs c d a - crs c d b) + (b.y - a.y) * crs c d a) := by
  simp only [crs]; grind
theorem meetG_sw (a b c d : Pt) : meetG c d a b = meetG a b c d := by
  unfold meetG
  have e := crs_det a b c d
  by_cases h : crs c d a = crs c d b
  · rw [if_neg (fun e' => e' (by omega)), if_neg (fun e => e h), parG_sw a b c d h]
  · have hr : ¬ crs a b c = crs a b d := by omega
    rw [if_pos hr, if_pos h]
    refine lines_eq (by omega) (by omega) ?_ (lines_x a b c d) (lines_y a b c d)
    have e1 : within (crs a b c) (crs a b c - crs a b d) = within (-crs a b c) (crs c d a - crs c d b) := by
      rw [← within_neg (crs a b c) _ (by omega), show -(crs a b c - crs a b d) = crs c d a - crs c d b by omega]
    have e2 : within (-crs c d a) (crs a b c - crs a b d) = within (crs c d a) (crs c d a - crs c d b) := by
      rw [← within_neg (crs c d a) _ (by omega), show -(crs c d a - crs c d b) = crs a b c - crs a b d by omega]
    rw [e1, e2, Bool.and_comm]

theorem meetF_ab (a b c d : Pt) : meetF b a c d = meetF a b c d := by
  unfold meetF
  rw [meetG_ab]
  cases rt a <;> cases rt b <;> rfl
theorem meetF_cd (a b c d : Pt) : meetF a b d c = meetF a b c d := by
  unfold meetF
  rw [meetG_cd]
  cases rt c <;> cases rt d <;> rfl
theorem meetF_sw (a b c d : Pt) : meetF c d a b = meetF a b c d := by
  unfold meetF
  rw [meetG_sw]
  cases rt a <;> cases rt b <;> cases rt c <;> cases rt d <;> rfl

end Go.Proofs.Ytllaijapijinoaa

namespace Go.Proofs.Ytllaijapijinoaa
set_option linter.unusedVariables false

theorem cmp3_lt {a b : Int} (h : a < b) : cmp3 a b = -1 := if_pos h
theorem cmp3_gt {a b : Int} (h : b < a) : cmp3 a b = 1 := by unfold cmp3; rw [if_neg (by omega), if_pos h]
theorem cmp3_eq {a b : Int} (h : a = b) : cmp3 a b = 0 := by unfold cmp3; rw [if_neg (by omega), if_neg (by omega)]
theorem cmp3_of_lt {a b c d : Int} (h : a < b ↔ c < d) (h' : b < a ↔ d < c) : cmp3 a b = cmp3 c d := by
  rcases Int.lt_trichotomy a b with q | q | q
  · rw [cmp3_lt q, cmp3_lt (h.1 q)]
  · rw [cmp3_eq q, cmp3_eq]
    omega
  · rw [cmp3_gt q, cmp3_gt (h'.1 q)]
theorem cmp3_ne {a b : Int} (h : cmp3 a b ≠ 0) : a ≠ b := fun e => h (cmp3_eq e)
theorem eq_of_cmp3 {a b : Int} (h : cmp3 a b = 0) : a = b := by
  unfold cmp3 at h
  split at h
  · omega
  · split at h <;> omega
theorem cmp3_sub {a b c d : Int} (h : a - b = c - d) : cmp3 a b = cmp3 c d := cmp3_of_lt (by omega) (by omega)
theorem below_of {n0 n1 d0 d1 : Int} (h0 : 0 < d0) (h1 : 0 < d1) (h : n0 / d0 < n1 / d1) : n0 * d1 < n1 * d0 := by
  have e0 := Int.emod_lt_of_pos n0 h0
  have e1 := Int.emod_nonneg n1 (show d1 ≠ 0 by omega)
  have f0 := Int.mul_ediv_add_emod n0 d0
  have f1 := Int.mul_ediv_add_emod n1 d1
  have a1 : n0 < d0 * (n0 / d0 + 1) := by rw [Int.mul_add]; omega
  have a2 : d0 * (n0 / d0 + 1) ≤ d0 * (n1 / d1) := Int.mul_le_mul_of_nonneg_left (by omega) (by omega)
  have a3 : n0 < d0 * (n1 / d1) := by omega
  have a4 : n0 * d1 < d0 * (n1 / d1) * d1 := Int.mul_lt_mul_of_pos_right a3 h1
  have a5 : d1 * (n1 / d1) * d0 ≤ n1 * d0 := Int.mul_le_mul_of_nonneg_right (by omega) (by omega)
  have a6 : d0 * (n1 / d1) * d1 = d1 * (n1 / d1) * d0 := by grind
  omega
theorem round_ne {n0 n1 d0 d1 : Int} (h0 : 0 < d0) (h1 : 0 < d1) (h : n0 / d0 ≠ n1 / d1) : cmp3 (n0 / d0) (n1 / d1) = cmp3 (n0 * d1) (n1 * d0) := by
  rcases Int.lt_or_gt_of_ne h with q | q
  · rw [cmp3_lt q, cmp3_lt (below_of h0 h1 q)]
  · rw [cmp3_gt q, cmp3_gt (below_of h1 h0 q)]
theorem round_eq {n0 n1 d0 d1 : Int} (h : n0 / d0 = n1 / d1) : cmp3 (n0 * d1) (n1 * d0) = cmp3 (d1 * (n0 % d0)) (d0 * (n1 % d1)) := by
  have f0 := Int.mul_ediv_add_emod n0 d0
  have f1 := Int.mul_ediv_add_emod n1 d1
  rw [h] at f0
  apply cmp3_sub
  generalize n0 % d0 = r at *
  generalize n1 % d1 = s at *
  generalize n1 / d1 = q at *
  subst f0; subst f1
  grind
theorem round_end {r s d0 d1 : Int} (h0 : 0 < d0) (h1 : 0 < d1) (hr : 0 ≤ r) (hs : 0 ≤ s) (h : r = 0 ∨ s = 0) : r.sign - s.sign = cmp3 (d1 * r) (d0 * s) := by
  rcases Int.lt_or_eq_of_le hr with a | a
  · have : s = 0 := by omega
    subst this
    rw [Int.sign_eq_one_of_pos a, Int.sign_zero, Int.mul_zero, cmp3_gt (Int.mul_pos h1 a)]
    rfl
  · subst a
    rcases Int.lt_or_eq_of_le hs with c | c
    · rw [Int.sign_eq_one_of_pos c, Int.sign_zero, Int.mul_zero, cmp3_lt (Int.mul_pos h0 c)]
      rfl
    · subst c
      rw [Int.sign_zero, Int.mul_zero, Int.mul_zero, cmp3_eq rfl]
      rfl

/-- Floors, by sizes. -/
theorem floor_neg {A V : Nat} {a b : Int} (ha : a = -(A : Int)) (hb : b = V) (hv : 0 < V) : a / b = (if A % V = 0 then -((A / V : Nat) : Int) else -((A / V : Nat) : Int) + -1) ∧ a % b = (if A % V = 0 then ((A % V : Nat) : Int) else b + -((A % V : Nat) : Int)) := by
  subst ha; subst hb
  have e := Nat.div_add_mod A V
  have l := Nat.mod_lt A hv
  generalize A / V = q at *
  generalize A % V = r at *
  have e' : (A : Int) = V * q + r := by rw [← e]; simp
  split
  · refine (Int.ediv_emod_unique (by omega)).2 ⟨?_, by omega, by omega⟩
    rw [e', Int.mul_neg]; omega
  · refine (Int.ediv_emod_unique (by omega)).2 ⟨?_, by omega, by omega⟩
    rw [e', Int.mul_add, Int.mul_neg]; omega

end Go.Proofs.Ytllaijapijinoaa

namespace Go.Proofs.Ytllaijapijinoaa
open Go.Cw
set_option linter.unusedVariables false

theorem wideSign_pos (n : Int) (h0 : 0 < n) (hn : InW n) : Ret Try.prog 79 [] [wdn n] (i64 1) [] := by
  have := wideSign_ret n hn
  rw [Int.sign_eq_one_of_pos h0] at this
  exact this
theorem wideSign_neg (n : Int) (h0 : n < 0) (hn : InW n) : Ret Try.prog 79 [] [wdn n] (i64 (-1)) [] := by
  have := wideSign_ret n hn
  rw [Int.sign_eq_neg_one_of_neg h0] at this
  exact this
theorem divide_of (A V : Nat) (hA : A < 340282366920938463463374607431768211456) (hv : 0 < V) (hv2 : V < 170141183460469231731687303715884105728) {h l bh bl : Int}
    (e1 : h = ((A / 18446744073709551616 : Nat) : Int)) (e2 : l = ((A % 18446744073709551616 : Nat) : Int)) (e3 : bh = ((V / 18446744073709551616 : Nat) : Int)) (e4 : bl = ((V % 18446744073709551616 : Nat) : Int)) :
    Ret Try.prog 108 [] [u64 h, u64 l, u64 bh, u64 bl]
      (.tup [u64 ((A / V / 18446744073709551616 : Nat) : Int), u64 ((A / V % 18446744073709551616 : Nat) : Int), u64 ((A % V / 18446744073709551616 : Nat) : Int), u64 ((A % V % 18446744073709551616 : Nat) : Int)]) [] := by
  subst e1; subst e2; subst e3; subst e4
  have := divide_ret (A / 18446744073709551616) (A % 18446744073709551616) V (by omega) (by omega) hv hv2
  rw [show A / 18446744073709551616 * 18446744073709551616 + A % 18446744073709551616 = A by omega] at this
  exact this
theorem signed_of (n : Nat) (hn : n < 170141183460469231731687303715884105728) {t : Bool} {b : Bool} (e : t = b) :
    Ret Try.prog 109 [] [u64 ((n / 18446744073709551616 : Nat) : Int), u64 ((n % 18446744073709551616 : Nat) : Int), .bool t] (.tup [wdn (match b with | true => -(n : Int) | false => (n : Int)), .bool true]) [] := by
  subst e
  refine wideSigned_of _ _ (by omega) (by omega) (by omega) (by omega) t ?_
  cases t
  · show ((n / 18446744073709551616 : Nat) : Int) * 18446744073709551616 + ((n % 18446744073709551616 : Nat) : Int) = n
    omega
  · show -(((n / 18446744073709551616 : Nat) : Int) * 18446744073709551616 + ((n % 18446744073709551616 : Nat) : Int)) = -n
    omega
theorem hiNeg (a : Int) (ha : InW a) : decide (IntKind.wrap .i64 (a / 18446744073709551616) < 0) = decide (a < 0) := by
  obtain ⟨h1, h2⟩ := ha
  rw [IntKind.wrap_i64, decide_eq_decide]
  omega
theorem wd2_nat (n : Nat) (hn : n < 170141183460469231731687303715884105728) : wd2 (IntKind.wrap .i64 ((n / 18446744073709551616 : Nat) : Int)) ((n % 18446744073709551616 : Nat) : Int) = wdn n := by
  simp only [wdn, wd2, IntKind.wrap_i64]
  congr 4

theorem wideDiv_pos (a b : Int) (hb : 0 < b) (hbw : InW b) (ha0 : 0 ≤ a) (haw : InW a) : Ret Try.prog 77 [] [wdn a, wdn b] (.tup [wdn (a / b), wdn (a % b), .bool true]) [] := by
  obtain ⟨A, rfl⟩ := Int.eq_ofNat_of_zero_le ha0
  obtain ⟨V, rfl⟩ := Int.eq_ofNat_of_zero_le (show 0 ≤ b by omega)
  have hV : 0 < V := by omega
  have hV2 : V < 170141183460469231731687303715884105728 := by obtain ⟨_, h⟩ := hbw; omega
  have hA : A < 170141183460469231731687303715884105728 := by obtain ⟨_, h⟩ := haw; omega
  have hsg : decide (IntKind.wrap .i64 ((A : Int) / 18446744073709551616) < 0) = false := by rw [hiNeg _ haw]; simp
  refine ret_of Try.func77 rfl rfl rfl ?_
  refine RC.use (wideSign_pos _ hb hbw) rfl ?_
  refine RC.use (wideSize_ret _ haw) rfl ?_
  refine RC.use (divide_of A V (by omega) hV hV2 (by simp) (by simp) (by rw [IntKind.wrap_u64, IntKind.wrap_i64]; omega) (by omega)) rfl ?_
  refine RC.use (signed_of (A / V) (Nat.lt_of_le_of_lt (Nat.div_le_self _ _) hA) hsg) rfl ?_
  refine BM.split (fun h => ?_) (fun h => ?_)
  · exact absurd (h.symm.trans hsg) (by decide)
  refine CL.yes (by kernel_rfl) ?_
  exact ⟨eq2 (.tup [wdn ((A / V : Nat) : Int), wd2 (IntKind.wrap .i64 ((A % V / 18446744073709551616 : Nat) : Int)) ((A % V % 18446744073709551616 : Nat) : Int), .bool true]) (by
    rw [wd2_nat _ (Nat.lt_trans (Nat.mod_lt _ hV) hV2)]
    simp) rfl, rfl, trivial⟩

set_option maxHeartbeats 2000000 in
theorem wideDiv_neg (a b : Int) (hb : 0 < b) (hbw : InW b) (ha0 : a < 0) (haw : InW a) (hl : a ≠ -170141183460469231731687303715884105728) : Ret Try.prog 77 [] [wdn a, wdn b] (.tup [wdn (a / b), wdn (a % b), .bool true]) [] := by
  obtain ⟨A, hAe⟩ := Int.eq_ofNat_of_zero_le (show 0 ≤ -a by omega)
  obtain ⟨V, hVe⟩ := Int.eq_ofNat_of_zero_le (show 0 ≤ b by omega)
  have hV : 0 < V := by omega
  have hV2 : V < 170141183460469231731687303715884105728 := by obtain ⟨_, h⟩ := hbw; omega
  have hA : A < 170141183460469231731687303715884105728 := by obtain ⟨h, _⟩ := haw; omega
  have hna : a.natAbs = A := by omega
  have hsg : decide (IntKind.wrap .i64 (a / 18446744073709551616) < 0) = true := by rw [hiNeg _ haw]; simpa using ha0
  have hR : A % V < 170141183460469231731687303715884105728 := Nat.lt_trans (Nat.mod_lt _ hV) hV2
  have hfl := floor_neg (A := A) (V := V) (a := a) (b := b) (by omega) hVe hV
  refine ret_of Try.func77 rfl rfl rfl ?_
  refine RC.use (wideSign_pos _ hb hbw) rfl ?_
  refine RC.use (wideSize_ret _ haw) rfl ?_
  refine RC.use (divide_of A V (by omega) hV hV2 (by rw [hna]; simp) (by rw [hna]; simp) (by rw [IntKind.wrap_u64, IntKind.wrap_i64]; omega) (by omega)) rfl ?_
  refine RC.use (signed_of (A / V) (Nat.lt_of_le_of_lt (Nat.div_le_self _ _) hA) hsg) rfl ?_
  refine BM.split (fun _ => ?_) (fun h => ?_)
  · refine BM.split (fun h => ?_) (fun h => ?_)
    · have h : (!(IntKind.wrap .i64 ((A % V / 18446744073709551616 : Nat) : Int) == 0 && (((A % V % 18446744073709551616 : Nat) : Int) == 0 && true))) = true := h
      have hne : A % V ≠ 0 := by
        intro e
        rw [e] at h
        exact absurd h (by decide)
      rw [if_neg hne, if_neg hne] at hfl
      refine RC.use (wideOf_ret (-1) (by omega) (by omega)) rfl ?_
      refine RC.use (wrap_ret _ _) rfl ?_
      refine CL.yes (by kernel_rfl) ?_
      refine RC.use (turn_ret2 _ (wd2_nat _ hR)) rfl ?_
      refine RC.use (wrap_ret _ _) rfl ?_
      refine CL.yes (by kernel_rfl) ?_
      refine CL.yes (by kernel_rfl) ?_
      exact ⟨eq2 (.tup [wdn (-((A / V : Nat) : Int) + -1), wdn (b + -((A % V : Nat) : Int)), .bool true]) (by rw [hfl.1, hfl.2]) rfl, rfl, trivial⟩
    · have h : (!(IntKind.wrap .i64 ((A % V / 18446744073709551616 : Nat) : Int) == 0 && (((A % V % 18446744073709551616 : Nat) : Int) == 0 && true))) = false := h
      have hz : A % V = 0 := by
        simp only [Bool.and_true, Bool.not_eq_false', Bool.and_eq_true, beq_iff_eq, IntKind.wrap_i64] at h
        omega
      rw [if_pos hz, if_pos hz] at hfl
      refine CL.yes (by kernel_rfl) ?_
      exact ⟨eq2 (.tup [wdn (-((A / V : Nat) : Int)), wd2 (IntKind.wrap .i64 ((A % V / 18446744073709551616 : Nat) : Int)) ((A % V % 18446744073709551616 : Nat) : Int), .bool true]) (by
        rw [wd2_nat _ hR, hfl.1, hfl.2]) rfl, rfl, trivial⟩
  · exact absurd (hsg.symm.trans h) (by decide)

theorem wideDiv_ret (a b : Int) (hb : 0 < b) (hbw : InW b) (haw : InW a) (hl : a ≠ -170141183460469231731687303715884105728) : Ret Try.prog 77 [] [wdn a, wdn b] (.tup [wdn (a / b), wdn (a % b), .bool true]) [] := by
  rcases Int.lt_or_le a 0 with h | h
  · exact wideDiv_neg a b hb hbw h haw hl
  · exact wideDiv_pos a b hb hbw h haw

end Go.Proofs.Ytllaijapijinoaa

namespace Go.Proofs.Ytllaijapijinoaa
open Go.Cw
set_option linter.unusedVariables false

abbrev fr (n d : Int) : AV := .ag [.int .i64 (IntKind.wrap .i64 (n / 18446744073709551616)), .int .u64 (n % 18446744073709551616), .int .i64 (IntKind.wrap .i64 (d / 18446744073709551616)), .int .u64 (d % 18446744073709551616)]
def least128 : Int := -170141183460469231731687303715884105728
theorem InW.of_pos {n m : Int} (h : InW m) (h0 : 0 ≤ n) (h1 : n ≤ m) : InW n := by
  obtain ⟨_, b⟩ := h
  exact ⟨by omega, by omega⟩
theorem InW.ediv {a b : Int} (h : InW a) (hb : 0 < b) : InW (a / b) := by
  obtain ⟨h1, h2⟩ := h
  rcases Int.lt_or_le a 0 with q | q
  · have e1 := Int.ediv_neg_of_neg_of_pos q hb
    have e2 : a ≤ a / b := Int.le_ediv_of_mul_le hb (by
      have := Int.mul_nonneg (show 0 ≤ -a by omega) (show 0 ≤ b - 1 by omega)
      rw [Int.neg_mul, Int.mul_sub, Int.mul_one] at this
      omega)
    exact ⟨by omega, by omega⟩
  · have e1 := Int.ediv_le_self b q
    have e2 := Int.ediv_nonneg q (show 0 ≤ b by omega)
    exact ⟨by omega, by omega⟩

theorem fracOf_ret (n : Int) (h : InI n) : Ret Try.prog 34 [] [i64 n] (fr n 1) [] := by
  refine ret_of Try.func34 rfl rfl rfl ?_
  refine RC.use (wideOf_ret n h.1 h.2) rfl ?_
  refine RC.use (wideOf_ret 1 (by decide) (by decide)) rfl ?_
  exact ⟨rfl, rfl, trivial⟩
theorem fracRight_pos (n d : Int) (hd : 0 < d) (hw : InW d) : Ret Try.prog 35 [] [fr n d] (.bool true) [] := by
  refine ret_of Try.func35 rfl rfl rfl ?_
  refine RC.use (wideSign_pos d hd hw) rfl ?_
  exact ⟨rfl, rfl, trivial⟩
theorem fracMake_pos (n d : Int) (hd : 0 < d) (hw : InW d) : Ret Try.prog 128 [] [wdn n, wdn d] (.tup [fr n d, .bool true]) [] := by
  refine ret_of Try.func128 rfl rfl rfl ?_
  refine RC.use (wideSign_pos d hd hw) rfl ?_
  exact ⟨rfl, rfl, trivial⟩
theorem fracMake_neg (n d : Int) (hd : d < 0) (hw : InW d) (hl : d ≠ -170141183460469231731687303715884105728) (hn : InW n) (hnl : n ≠ -170141183460469231731687303715884105728) : Ret Try.prog 128 [] [wdn n, wdn d] (.tup [fr (-n) (-d), .bool true]) [] := by
  refine ret_of Try.func128 rfl rfl rfl ?_
  refine RC.use (wideSign_neg d hd hw) rfl ?_
  refine RC.use (wideNeg_ret n hn hnl) rfl ?_
  refine RC.use (wideNeg_ret d hw hl) rfl ?_
  refine RC.use (wideSign_pos (-d) (by omega) ?_) rfl ?_
  · obtain ⟨a, b⟩ := hw
    exact ⟨by omega, by omega⟩
  exact ⟨rfl, rfl, trivial⟩

/-! ### The comparison -/
def cmpS (n0 n1 d0 d1 : Int) : St :=
  ⟨[(5, .ptr 2 0), (6, .ptr 3 0)], [(2, .cells 120 [.int .i64 (IntKind.wrap .i64 (n0 / 18446744073709551616)), .int .u64 (n0 % 18446744073709551616), .int .i64 (IntKind.wrap .i64 (n1 / 18446744073709551616)), .int .u64 (n1 % 18446744073709551616)]),
    (3, .cells 120 [.int .i64 (IntKind.wrap .i64 (d0 / 18446744073709551616)), .int .u64 (d0 % 18446744073709551616), .int .i64 (IntKind.wrap .i64 (d1 / 18446744073709551616)), .int .u64 (d1 % 18446744073709551616)])], 4⟩
/-- What is kept from round to round. -/
structure CmpI (c n0 n1 d0 d1 : Int) : Prop where
  p0 : 0 < d0
  p1 : 0 < d1
  w0 : InW d0
  w1 : InW d1
  m0 : InW n0
  m1 : InW n1
  l0 : n0 ≠ -170141183460469231731687303715884105728
  l1 : n1 ≠ -170141183460469231731687303715884105728
  is : c = cmp3 (n0 * d1) (n1 * d0)
theorem sub_sign (r s : Int) : IntKind.wrap .i64 (r.sign - s.sign) = r.sign - s.sign := by
  rw [IntKind.wrap_i64]
  have h1 := Int.sign_trichotomy r
  have h2 := Int.sign_trichotomy s
  omega

set_option maxHeartbeats 2000000 in
theorem fracCmp_ret (n0 n1 d0 d1 c : Int) (h : CmpI c n0 n1 d0 d1) : Ret Try.prog 33 [] [fr n0 d0, fr n1 d1] (i64 c) [] := by
  refine ret_of Try.func33 rfl rfl rfl ?_
  refine RC.use (fracRight_pos _ _ h.p0 h.w0) rfl ?_
  refine RC.use (fracRight_pos _ _ h.p1 h.w1) rfl ?_
  refine CL.yes (by kernel_rfl) ?_
  refine ⟨Int × Int × Int × Int, fun x => cmpS x.1 x.2.1 x.2.2.1 x.2.2.2, fun x => CmpI c x.1 x.2.1 x.2.2.1 x.2.2.2, fun x => (x.2.2.1 + x.2.2.2).toNat, (n0, n1, d0, d1), [(2, 2), (3, 3)], h,
    ⟨rfl, rfl, rfl, ⟨rfl, rfl, rfl, rfl, trivial⟩, ⟨rfl, rfl, rfl, rfl, trivial⟩⟩, ?_⟩
  intro x hI
  have i0 := hI.p0
  have i1 := hI.p1
  have r0 := Int.emod_nonneg x.1 (show x.2.2.1 ≠ 0 by omega)
  have r1 := Int.emod_nonneg x.2.1 (show x.2.2.2 ≠ 0 by omega)
  have s0 := Int.emod_lt_of_pos x.1 i0
  have s1 := Int.emod_lt_of_pos x.2.1 i1
  refine RC.use (wideDiv_ret x.1 x.2.2.1 i0 hI.w0 hI.m0 hI.l0) rfl ?_
  refine RC.use (wideDiv_ret x.2.1 x.2.2.2 i1 hI.w1 hI.m1 hI.l1) rfl ?_
  refine RC.use (wideCmp_ret (x.1 / x.2.2.1) (x.2.1 / x.2.2.2) (hI.m0.ediv i0) (hI.m1.ediv i1)) rfl ?_
  refine BM.split (fun h => ?_) (fun h => ?_)
  · have h : (cmp3 (x.1 / x.2.2.1) (x.2.1 / x.2.2.2) != 0) = true := h
    exact ⟨eq2 (i64 (cmp3 (x.1 / x.2.2.1) (x.2.1 / x.2.2.2))) (by
      rw [hI.is, round_ne i0 i1 (cmp3_ne (by simpa using h))]) rfl, rfl, trivial⟩
  · have h : (cmp3 (x.1 / x.2.2.1) (x.2.1 / x.2.2.2) != 0) = false := h
    have hq : x.1 / x.2.2.1 = x.2.1 / x.2.2.2 := eq_of_cmp3 (by simpa using h)
    have hE := round_eq hq
    refine RC.use (wideSign_ret (x.1 % x.2.2.1) (hI.w0.of_pos r0 (by omega))) rfl ?_
    refine BM.split (fun h1 => ?_) (fun h1 => ?_)
    · have h1 : (Int.sign (x.1 % x.2.2.1) == 0) = true := h1
      refine RC.use (wideSign_ret (x.1 % x.2.2.1) (hI.w0.of_pos r0 (by omega))) rfl ?_
      refine RC.use (wideSign_ret (x.2.1 % x.2.2.2) (hI.w1.of_pos r1 (by omega))) rfl ?_
      refine CL.yes (by kernel_rfl) ?_
      exact ⟨eq2 (i64 (IntKind.wrap .i64 (Int.sign (x.1 % x.2.2.1) - Int.sign (x.2.1 % x.2.2.2)))) (by
        rw [sub_sign, hI.is, hE, round_end i0 i1 r0 r1 (Or.inl (by simpa [Int.sign_eq_zero_iff_zero] using h1))]) rfl, rfl, trivial⟩
    · refine RC.use (wideSign_ret (x.2.1 % x.2.2.2) (hI.w1.of_pos r1 (by omega))) rfl ?_
      refine BM.split (fun h2 => ?_) (fun h2 => ?_)
      · have h2 : (Int.sign (x.2.1 % x.2.2.2) == 0) = true := h2
        refine RC.use (wideSign_ret (x.1 % x.2.2.1) (hI.w0.of_pos r0 (by omega))) rfl ?_
        refine RC.use (wideSign_ret (x.2.1 % x.2.2.2) (hI.w1.of_pos r1 (by omega))) rfl ?_
        refine CL.yes (by kernel_rfl) ?_
        exact ⟨eq2 (i64 (IntKind.wrap .i64 (Int.sign (x.1 % x.2.2.1) - Int.sign (x.2.1 % x.2.2.2)))) (by
          rw [sub_sign, hI.is, hE, round_end i0 i1 r0 r1 (Or.inr (by simpa [Int.sign_eq_zero_iff_zero] using h2))]) rfl, rfl, trivial⟩
      · have h1 : (Int.sign (x.1 % x.2.2.1) == 0) = false := h1
        have h2 : (Int.sign (x.2.1 % x.2.2.2) == 0) = false := h2
        have z1 : x.1 % x.2.2.1 ≠ 0 := by simpa [Int.sign_eq_zero_iff_zero] using h1
        have z2 : x.2.1 % x.2.2.2 ≠ 0 := by simpa [Int.sign_eq_zero_iff_zero] using h2
        refine CL.yes (by kernel_rfl) ?_
        have inv : CmpI c x.2.2.2 x.2.2.1 (x.2.1 % x.2.2.2) (x.1 % x.2.2.1) :=
          ⟨by omega, by omega, hI.w1.of_pos r1 (by omega), hI.w0.of_pos r0 (by omega), hI.w1, hI.w0, by omega, by omega, by rw [hI.is, hE]⟩
        exact ⟨(x.2.2.2, x.2.2.1, x.2.1 % x.2.2.2, x.1 % x.2.2.1), [(2, 2), (3, 3)], inv, (show (x.2.1 % x.2.2.2 + x.1 % x.2.2.1).toNat < (x.2.2.1 + x.2.2.2).toNat by omega),
          ⟨rfl, rfl, rfl, ⟨rfl, rfl, rfl, rfl, trivial⟩, ⟨rfl, rfl, rfl, rfl, trivial⟩⟩⟩

end Go.Proofs.Ytllaijapijinoaa

namespace Go.Proofs.Ytllaijapijinoaa
open Go.Cw
set_option linter.unusedVariables false

def inP (x : Int) : Bool := decide (x ≥ -536870912) && decide (x ≤ 536870912)
theorem planeRight_ret (x y : Int) : Ret Try.prog 94 [] [pt x y] (.bool (inP x && inP y)) [] := by
  refine ret_of Try.func94 rfl rfl rfl ?_
  refine BM.split (fun h1 => ?_) (fun h1 => ?_)
  · refine BM.split (fun h2 => ?_) (fun h2 => ?_)
    · refine BM.split (fun h3 => ?_) (fun h3 => ?_)
      · exact ⟨eq2 (.bool (decide (y ≤ 536870912))) (by simp [inP, h1, h2, h3]) rfl, rfl, trivial⟩
      · exact ⟨eq2 (.bool false) (by simp [inP, h1, h2, h3]) rfl, rfl, trivial⟩
    · exact ⟨eq2 (.bool false) (by simp [inP, h1, h2]) rfl, rfl, trivial⟩
  · exact ⟨eq2 (.bool false) (by simp [inP, h1]) rfl, rfl, trivial⟩
theorem planeRight_in {p : Pt} (h : rt p = true) : Ret Try.prog 94 [] [pt p.x p.y] (.bool true) [] := by
  have e := planeRight_ret p.x p.y
  rw [rt_iff] at h
  have : (inP p.x && inP p.y) = true := by simp only [inP, Bool.and_eq_true, decide_eq_true_eq]; omega
  rw [this] at e
  exact e

/-- A bound, both ways. -/
def Bd (k x : Int) : Prop := -k ≤ x ∧ x ≤ k
theorem Bd.mul {k l x y : Int} (h : Bd k x) (h' : Bd l y) : Bd (k * l) (x * y) := by
  obtain ⟨a, b⟩ := h
  obtain ⟨c, d⟩ := h'
  have e1 := Int.mul_nonneg (show 0 ≤ k - x by omega) (show 0 ≤ l + y by omega)
  have e2 := Int.mul_nonneg (show 0 ≤ k + x by omega) (show 0 ≤ l - y by omega)
  have e3 := Int.mul_nonneg (show 0 ≤ k - x by omega) (show 0 ≤ l - y by omega)
  have e4 := Int.mul_nonneg (show 0 ≤ k + x by omega) (show 0 ≤ l + y by omega)
  constructor <;> grind
theorem Bd.sub {k l x y : Int} (h : Bd k x) (h' : Bd l y) : Bd (k + l) (x - y) := by
  obtain ⟨a, b⟩ := h
  obtain ⟨c, d⟩ := h'
  exact ⟨by omega, by omega⟩
theorem rt_bd {p : Pt} (h : rt p = true) : Bd 134217728 p.x ∧ Bd 134217728 p.y := by
  rw [rt_iff] at h
  exact ⟨h.1, h.2⟩
theorem crs_bd {o a b : Pt} (ho : rt o = true) (ha : rt a = true) (hb : rt b = true) :
    Bd 72057594037927936 ((a.x - o.x) * (b.y - o.y)) ∧ Bd 72057594037927936 ((a.y - o.y) * (b.x - o.x)) := by
  have o1 := rt_bd ho
  have a1 := rt_bd ha
  have b1 := rt_bd hb
  exact ⟨(a1.1.sub o1.1).mul (b1.2.sub o1.2), (a1.2.sub o1.2).mul (b1.1.sub o1.1)⟩
theorem crs_bd2 {o a b : Pt} (ho : rt o = true) (ha : rt a = true) (hb : rt b = true) : Bd 144115188075855872 (crs o a b) := by
  have h := crs_bd ho ha hb
  exact h.1.sub h.2
theorem crs_wrap {o a b : Pt} (ho : rt o = true) (ha : rt a = true) (hb : rt b = true) :
    IntKind.wrap .i64 (IntKind.wrap .i64 (IntKind.wrap .i64 (a.x - o.x) * IntKind.wrap .i64 (b.y - o.y)) - IntKind.wrap .i64 (IntKind.wrap .i64 (a.y - o.y) * IntKind.wrap .i64 (b.x - o.x))) = crs o a b := by
  have h := crs_bd ho ha hb
  have h2 := crs_bd2 ho ha hb
  rw [rt_iff] at ho ha hb
  rw [show IntKind.wrap .i64 (a.x - o.x) = a.x - o.x by rw [IntKind.wrap_i64]; omega, show IntKind.wrap .i64 (b.y - o.y) = b.y - o.y by rw [IntKind.wrap_i64]; omega,
    show IntKind.wrap .i64 (a.y - o.y) = a.y - o.y by rw [IntKind.wrap_i64]; omega, show IntKind.wrap .i64 (b.x - o.x) = b.x - o.x by rw [IntKind.wrap_i64]; omega]
  unfold crs at *
  obtain ⟨⟨c1, c2⟩, ⟨c3, c4⟩⟩ := h
  obtain ⟨c5, c6⟩ := h2
  simp only [IntKind.wrap_i64]
  generalize (a.x - o.x) * (b.y - o.y) = u at *
  generalize (a.y - o.y) * (b.x - o.x) = v at *
  omega
theorem planeCross_ret {o a b : Pt} (ho : rt o = true) (ha : rt a = true) (hb : rt b = true) : Ret Try.prog 57 [] [pt o.x o.y, pt a.x a.y, pt b.x b.y] (i64 (crs o a b)) [] := by
  refine ret_of Try.func57 rfl rfl rfl ?_
  refine RC.use (planeRight_in ho) rfl ?_
  refine RC.use (planeRight_in ha) rfl ?_
  refine RC.use (planeRight_in hb) rfl ?_
  exact ⟨eq2 (i64 (IntKind.wrap .i64 (IntKind.wrap .i64 (IntKind.wrap .i64 (a.x - o.x) * IntKind.wrap .i64 (b.y - o.y)) - IntKind.wrap .i64 (IntKind.wrap .i64 (a.y - o.y) * IntKind.wrap .i64 (b.x - o.x))))) (by rw [crs_wrap ho ha hb]) rfl, rfl, trivial⟩
theorem planeTurn_ret {o a b : Pt} (ho : rt o = true) (ha : rt a = true) (hb : rt b = true) : Ret Try.prog 97 [] [pt o.x o.y, pt a.x a.y, pt b.x b.y] (i64 (cmp3 (crs o a b) 0)) [] := by
  refine ret_of Try.func97 rfl rfl rfl ?_
  refine RC.use (planeCross_ret ho ha hb) rfl ?_
  refine RC.use (compare_ret _ _) rfl ?_
  exact ⟨rfl, rfl, trivial⟩
abbrev mnE (x y : Int) : Int := if y < x then y else x
abbrev mxE (x y : Int) : Int := if y > x then y else x
set_option maxHeartbeats 4000000 in
theorem planeAround_ret (ax ay bx by' : Int) : Ret Try.prog 99 [] [pt ax ay, pt bx by'] (.ag [i64 (mnE ax bx), i64 (mnE ay by'), i64 (mxE ax bx), i64 (mxE ay by')]) [] := by
  refine ret_of Try.func99 rfl rfl rfl ?_
  refine ⟨?_, ?_, trivial⟩
  · kernel_rfl
  · kernel_rfl
theorem planeHolds_ret (x y z w px py : Int) : Ret Try.prog 98 [] [.ag [i64 x, i64 y, i64 z, i64 w], pt px py] (.bool (decide (px ≥ x) && (decide (px ≤ z) && (decide (py ≥ y) && decide (py ≤ w))))) [] := by
  refine ret_of Try.func98 rfl rfl rfl ?_
  refine BM.split (fun h1 => ?_) (fun h1 => ?_)
  · refine BM.split (fun h2 => ?_) (fun h2 => ?_)
    · refine BM.split (fun h3 => ?_) (fun h3 => ?_)
      · exact ⟨eq2 (.bool (decide (py ≤ w))) (by simp [h1, h2, h3]) rfl, rfl, trivial⟩
      · exact ⟨eq2 (.bool false) (by simp [h1, h2, h3]) rfl, rfl, trivial⟩
    · exact ⟨eq2 (.bool false) (by simp [h1, h2]) rfl, rfl, trivial⟩
  · exact ⟨eq2 (.bool false) (by simp [h1]) rfl, rfl, trivial⟩
theorem mnE_min (x y : Int) : mnE x y = min x y := by unfold mnE; split <;> omega
theorem mxE_max (x y : Int) : mxE x y = max x y := by unfold mxE; split <;> omega
theorem cmp3_zero_iff (x : Int) : (cmp3 x 0 == 0) = decide (x = 0) := by
  by_cases h : x = 0
  · subst h; rfl
  · have : cmp3 x 0 ≠ 0 := fun e => h (by
      have := cmp3_sub (a := x) (b := 0) (c := x) (d := 0) rfl
      unfold cmp3 at e
      split at e
      · omega
      · split at e <;> omega)
    simp [this, h]
theorem planeOn_ret {p a b : Pt} (hp : rt p = true) (ha : rt a = true) (hb : rt b = true) : Ret Try.prog 59 [] [pt p.x p.y, pt a.x a.y, pt b.x b.y] (.bool (onF p a b)) [] := by
  refine ret_of Try.func59 rfl rfl rfl ?_
  refine RC.use (planeRight_in hp) rfl ?_
  refine RC.use (planeRight_in ha) rfl ?_
  refine RC.use (planeRight_in hb) rfl ?_
  refine RC.use (planeTurn_ret ha hb hp) rfl ?_
  refine BM.split (fun h1 => ?_) (fun h1 => ?_)
  · have h1 : (cmp3 (crs a b p) 0 == 0) = true := h1
    refine RC.use (planeAround_ret _ _ _ _) rfl ?_
    refine RC.use (planeHolds_ret _ _ _ _ _ _) rfl ?_
    refine CL.yes (by kernel_rfl) ?_
    exact ⟨eq2 (.bool (decide (p.x ≥ mnE a.x b.x) && (decide (p.x ≤ mxE a.x b.x) && (decide (p.y ≥ mnE a.y b.y) && decide (p.y ≤ mxE a.y b.y))))) (by
      rw [cmp3_zero_iff] at h1
      unfold onF holdsF
      rw [h1, Bool.true_and]
      simp only [mnE_min, mxE_max]) rfl, rfl, trivial⟩
  · have h1 : (cmp3 (crs a b p) 0 == 0) = false := h1
    refine CL.yes (by kernel_rfl) ?_
    exact ⟨eq2 (.bool false) (by
      rw [cmp3_zero_iff] at h1
      unfold onF
      rw [h1, Bool.false_and]) rfl, rfl, trivial⟩

end Go.Proofs.Ytllaijapijinoaa

namespace Go.Proofs.Ytllaijapijinoaa
open Go.Cw
set_option linter.unusedVariables false

theorem times_of (x y : Int) (hx : InI x) (hy : InI y) {x' : Int} (e : x' = x) : Ret Try.prog 126 [] [i64 x', i64 y] (wdn (x * y)) [] := by
  subst e; exact times_ret x' y hx hy
theorem Bd.i {x : Int} {k : Int} (h : Bd k x) (hk : k ≤ 9223372036854775807) : InI x := by
  obtain ⟨a, b⟩ := h; exact ⟨by omega, by omega⟩
theorem Bd.w {x : Int} {k : Int} (h : Bd k x) (hk : k ≤ 170141183460469231731687303715884105727) : InW x := by
  obtain ⟨a, b⟩ := h; exact ⟨by omega, by omega⟩
theorem part_bd {a b n d : Int} (ha : Bd 134217728 a) (hb : Bd 134217728 b) (hn : Bd 288230376151711744 n) (hd : Bd 576460752303423488 d) :
    Bd 77371252455336267181195264 (a * d) ∧ Bd 77371252455336267181195264 ((b - a) * n) ∧ Bd 154742504910672534362390528 (a * d + (b - a) * n) := by
  have h1 := ha.mul hd
  have h2 := (hb.sub ha).mul hn
  have h1 : Bd 77371252455336267181195264 (a * d) := h1
  have h2 : Bd 77371252455336267181195264 ((b - a) * n) := h2
  refine ⟨h1, h2, ?_⟩
  obtain ⟨a1, a2⟩ := h1
  obtain ⟨b1, b2⟩ := h2
  exact ⟨by omega, by omega⟩
theorem part_pos (a b n d : Int) (ha : Bd 134217728 a) (hb : Bd 134217728 b) (hn : Bd 288230376151711744 n) (hd : Bd 576460752303423488 d) (h0 : 0 < d) :
    Ret Try.prog 96 [] [i64 a, i64 b, i64 n, i64 d] (fr (a * d + (b - a) * n) d) [] := by
  have h := part_bd ha hb hn hd
  refine ret_of Try.func96 rfl rfl rfl ?_
  refine RC.use (times_ret a d (ha.i (by decide)) (hd.i (by decide))) rfl ?_
  refine RC.use (times_of (b - a) n ((hb.sub ha).i (by decide)) (hn.i (by decide)) (by
    obtain ⟨a1, a2⟩ := ha; obtain ⟨b1, b2⟩ := hb
    rw [IntKind.wrap_i64]; omega)) rfl ?_
  refine RC.use (wideAdd_ret _ _ (h.1.w (by decide)) (h.2.1.w (by decide)) (h.2.2.w (by decide))) rfl ?_
  refine RC.use (wideOf_ret d (hd.i (by decide)).1 (hd.i (by decide)).2) rfl ?_
  refine RC.use (fracMake_pos _ _ h0 (hd.w (by decide))) rfl ?_
  refine CL.yes (by kernel_rfl) ?_
  exact ⟨rfl, rfl, trivial⟩
theorem part_neg (a b n d : Int) (ha : Bd 134217728 a) (hb : Bd 134217728 b) (hn : Bd 288230376151711744 n) (hd : Bd 576460752303423488 d) (h0 : d < 0) :
    Ret Try.prog 96 [] [i64 a, i64 b, i64 n, i64 d] (fr (-(a * d + (b - a) * n)) (-d)) [] := by
  have h := part_bd ha hb hn hd
  refine ret_of Try.func96 rfl rfl rfl ?_
  refine RC.use (times_ret a d (ha.i (by decide)) (hd.i (by decide))) rfl ?_
  refine RC.use (times_of (b - a) n ((hb.sub ha).i (by decide)) (hn.i (by decide)) (by
    obtain ⟨a1, a2⟩ := ha; obtain ⟨b1, b2⟩ := hb
    rw [IntKind.wrap_i64]; omega)) rfl ?_
  refine RC.use (wideAdd_ret _ _ (h.1.w (by decide)) (h.2.1.w (by decide)) (h.2.2.w (by decide))) rfl ?_
  refine RC.use (wideOf_ret d (hd.i (by decide)).1 (hd.i (by decide)).2) rfl ?_
  refine RC.use (fracMake_neg _ _ h0 (hd.w (by decide)) (by obtain ⟨q, _⟩ := hd; omega) (h.2.2.w (by decide)) (by obtain ⟨_, _, q, _⟩ := h; omega)) rfl ?_
  refine CL.yes (by kernel_rfl) ?_
  exact ⟨rfl, rfl, trivial⟩
theorem part_ret (a b n d : Int) (ha : Bd 134217728 a) (hb : Bd 134217728 b) (hn : Bd 288230376151711744 n) (hd : Bd 576460752303423488 d) (h0 : d ≠ 0) :
    Ret Try.prog 96 [] [i64 a, i64 b, i64 n, i64 d] (fr (partN a b n d) (nrmD d)) [] := by
  rcases Int.lt_or_gt_of_ne h0 with h | h
  · have := part_neg a b n d ha hb hn hd h
    rw [show partN a b n d = -(a * d + (b - a) * n) by unfold partN nrmN; rw [if_neg (by omega)], show nrmD d = -d by unfold nrmD; rw [if_neg (by omega)]]
    exact this
  · have := part_pos a b n d ha hb hn hd h
    rw [show partN a b n d = a * d + (b - a) * n by unfold partN nrmN; rw [if_pos h], show nrmD d = d by unfold nrmD; rw [if_pos h]]
    exact this

theorem within_ret (n d : Int) (hn : Bd 288230376151711744 n) (hd : Bd 576460752303423488 d) : Ret Try.prog 95 [] [i64 n, i64 d] (.bool (within n d)) [] := by
  obtain ⟨a1, a2⟩ := hn
  obtain ⟨b1, b2⟩ := hd
  have en : IntKind.wrap .i64 (0 - n) = -n := by rw [IntKind.wrap_i64]; omega
  have ed : IntKind.wrap .i64 (0 - d) = -d := by rw [IntKind.wrap_i64]; omega
  refine ret_of Try.func95 rfl rfl rfl ?_
  refine BM.split (fun h1 => ?_) (fun h1 => ?_)
  · have h1 : decide (d < 0) = true := h1
    refine BM.split (fun h2 => ?_) (fun h2 => ?_)
    · have h2 : decide (IntKind.wrap .i64 (0 - n) ≥ 0) = true := h2
      exact ⟨eq2 (.bool (decide (IntKind.wrap .i64 (0 - n) ≤ IntKind.wrap .i64 (0 - d)))) (by
        rw [en] at h2 ⊢
        rw [ed]
        unfold within
        rw [if_pos (by simpa using h1), h2, Bool.true_and]) rfl, rfl, trivial⟩
    · have h2 : decide (IntKind.wrap .i64 (0 - n) ≥ 0) = false := h2
      exact ⟨eq2 (.bool false) (by
        rw [en] at h2
        unfold within
        rw [if_pos (by simpa using h1), h2, Bool.false_and]) rfl, rfl, trivial⟩
  · have h1 : decide (d < 0) = false := h1
    refine BM.split (fun h2 => ?_) (fun h2 => ?_)
    · have h2 : decide (n ≥ 0) = true := h2
      exact ⟨eq2 (.bool (decide (n ≤ d))) (by
        unfold within
        rw [if_neg (by simpa using h1), h2, Bool.true_and]) rfl, rfl, trivial⟩
    · have h2 : decide (n ≥ 0) = false := h2
      exact ⟨eq2 (.bool false) (by
        unfold within
        rw [if_neg (by simpa using h1), h2, Bool.false_and]) rfl, rfl, trivial⟩

/-! ### Meetings -/
abbrev mt0 : AV := .ag [i64 0, i64 0, u64 0, i64 0, u64 0, i64 0, u64 0, i64 0, u64 0, i64 0, i64 0, i64 0, i64 0]
abbrev mt1 (xn xd yn yd : Int) : AV := .ag [i64 1, .int .i64 (IntKind.wrap .i64 (xn / 18446744073709551616)), .int .u64 (xn % 18446744073709551616), .int .i64 (IntKind.wrap .i64 (xd / 18446744073709551616)), .int .u64 (xd % 18446744073709551616),
  .int .i64 (IntKind.wrap .i64 (yn / 18446744073709551616)), .int .u64 (yn % 18446744073709551616), .int .i64 (IntKind.wrap .i64 (yd / 18446744073709551616)), .int .u64 (yd % 18446744073709551616), i64 0, i64 0, i64 0, i64 0]
abbrev mt2 (px py qx qy : Int) : AV := .ag [i64 2, i64 0, u64 0, i64 0, u64 0, i64 0, u64 0, i64 0, u64 0, i64 px, i64 py, i64 qx, i64 qy]
def MT.av : MT → AV
  | .no => mt0
  | .place xn xd yn yd => mt1 xn xd yn yd
  | .along p q => mt2 p.x p.y q.x q.y

theorem lines_ret {a b : Pt} (ha : rt a = true) (hb : rt b = true) (n m d : Int) (hn : Bd 288230376151711744 n) (hm : Bd 288230376151711744 m) (hd : Bd 576460752303423488 d) (h0 : d ≠ 0) :
    Ret Try.prog 58 [] [pt a.x a.y, pt b.x b.y, i64 n, i64 m, i64 d] (linesF a b n m d).av [] := by
  have ka := rt_bd ha
  have kb := rt_bd hb
  refine ret_of Try.func58 rfl rfl rfl ?_
  refine RC.use (within_ret n d hn hd) rfl ?_
  refine BM.split (fun h1 => ?_) (fun h1 => ?_)
  · have h1 : (!within n d) = true := h1
    exact ⟨eq2 mt0 (by
      have : within n d = false := by simpa using h1
      unfold linesF
      rw [this]
      rfl) rfl, rfl, trivial⟩
  · have h1 : (!within n d) = false := h1
    have e1 : within n d = true := by simpa using h1
    refine RC.use (within_ret m d hm hd) rfl ?_
    refine BM.split (fun h2 => ?_) (fun h2 => ?_)
    · have h2 : (!within m d) = true := h2
      exact ⟨eq2 mt0 (by
        have : within m d = false := by simpa using h2
        unfold linesF
        rw [e1, this]
        rfl) rfl, rfl, trivial⟩
    · have h2 : (!within m d) = false := h2
      refine RC.use (part_ret a.x b.x n d ka.1 kb.1 hn hd h0) rfl ?_
      refine RC.use (part_ret a.y b.y n d ka.2 kb.2 hn hd h0) rfl ?_
      refine CL.yes (by kernel_rfl) ?_
      exact ⟨eq2 (mt1 (partN a.x b.x n d) (nrmD d) (partN a.y b.y n d) (nrmD d)) (by
        have : within m d = true := by simpa using h2
        unfold linesF
        rw [e1, this]
        rfl) rfl, rfl, trivial⟩

theorem at_ret {p : Pt} (h : rt p = true) : Ret Try.prog 60 [] [pt p.x p.y] (mt1 p.x 1 p.y 1) [] := by
  have k := rt_bd h
  refine ret_of Try.func60 rfl rfl rfl ?_
  refine RC.use (fracOf_ret p.x (k.1.i (by decide))) rfl ?_
  refine RC.use (fracOf_ret p.y (k.2.i (by decide))) rfl ?_
  refine CL.yes (by kernel_rfl) ?_
  exact ⟨rfl, rfl, trivial⟩
theorem sorted_ret (a b : Pt) : Ret Try.prog 100 [] [pt a.x a.y, pt b.x b.y] (.tup [pt (lo a b).x (lo a b).y, pt (hi a b).x (hi a b).y]) [] := by
  refine ret_of Try.func100 rfl rfl rfl ?_
  refine RC.use (planeCmp_ret _ _ _ _) rfl ?_
  refine BM.split (fun h => ?_) (fun h => ?_)
  · have h : decide (pcmp a b > 0) = true := h
    refine CL.yes (by kernel_rfl) ?_
    exact ⟨eq2 (.tup [pt b.x b.y, pt a.x a.y]) (by
      have : pcmp a b > 0 := by simpa using h
      unfold lo hi
      rw [if_pos this, if_pos this]) rfl, rfl, trivial⟩
  · have h : decide (pcmp a b > 0) = false := h
    refine CL.yes (by kernel_rfl) ?_
    exact ⟨eq2 (.tup [pt a.x a.y, pt b.x b.y]) (by
      have : ¬ pcmp a b > 0 := by simpa using h
      unfold lo hi
      rw [if_neg this, if_neg this]) rfl, rfl, trivial⟩

end Go.Proofs.Ytllaijapijinoaa

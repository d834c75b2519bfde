/-
  Parts of one proof, in their order: Contracts of chains: New, Depth, Clone, Same. Conditions: bounds, those in each statement. · The contract of a link's split. Conditions: bounds, those in each statement. · The contracts of comparing rows, and of rows in order. Conditions: bounds, those in each statement. · The contract of right chains. Conditions: bounds, those in each statement. · The contracts of the law's own functions of chapter 10. Conditions: bounds, those in each statement. · The law of a chain that goes along a segment, as a contract. Conditions: bounds, those in each statement.
-/
import Derived.Test.YtllaijapijinoaaB7
set_option linter.all false
namespace Go.Proofs.Ytllaijapijinoaa
open Go.Cw
set_option linter.all false

/-! ### Pixels of points -/
theorem bv_odd (x : Int) : ((BitVec.ofInt (IntKind.bits .i64) x &&& BitVec.ofInt (IntKind.bits .i64) 1).toNat : Int) = x % 2 := by
  show ((BitVec.ofInt 64 x &&& BitVec.ofInt 64 1).toNat : Int) = x % 2
  rw [BitVec.toNat_and, show (BitVec.ofInt 64 1).toNat = 1 from rfl, Nat.and_one_is_mod, BitVec.toNat_ofInt]
  simp only [Int.natCast_emod]
  omega
/-- The number of the pixel in which a number is. -/
def snapF (v k : Int) : Int := (2 * v + 2 ^ (rungF k).toNat) / (2 * 2 ^ (rungF k).toNat)
theorem snap_ret (v k : Int) (hv : Bd 1073741824 v) : Ret Try.prog 50 [] [i64 v, i64 k] (i64 (snapF v k)) [] := by
  have hk := rungF_bd k
  obtain ⟨v1, v2⟩ := hv
  refine ret_of Try.func50 rfl rfl rfl ?_
  refine RC.use (rung_ret k) rfl ?_
  refine BM.split (fun h0 => ?_) (fun h0 => ?_)
  · have h0 : (rungF k == 0) = true := h0
    have g0 : rungF k = 0 := eq_of_beq h0
    exact ⟨eq2 (AV.int IntKind.i64 v) (by congr 1; unfold snapF; rw [g0]; show (2 * v + 1) / (2 * 1) = v; omega) rfl, rfl, trivial⟩
  · have h0 : (rungF k == 0) = false := h0
    have g0 : ¬rungF k = 0 := ne_of_beq_false h0
    refine BM.no (show (decide (rungF k < 0)) = false from by simp; omega) ?_
    refine BM.no (show (decide (IntKind.i64.wrap (rungF k - 1) < 0)) = false from by simp [IntKind.wrap_i64] at *; omega) ?_
    refine CL.yes (by kernel_rfl) ?_
    exact ⟨eq2 (AV.int IntKind.i64 (IntKind.i64.wrap (v.fdiv (2 ^ min (rungF k).toNat IntKind.i64.bits) + IntKind.i64.wrap (↑(BitVec.ofInt IntKind.i64.bits (v.fdiv (2 ^ min (IntKind.i64.wrap (rungF k - 1)).toNat IntKind.i64.bits)) &&& BitVec.ofInt IntKind.i64.bits 1).toNat : Int)))) (by
      rw [bv_odd]
      congr 1
      have e1 : IntKind.i64.wrap (rungF k - 1) = rungF k - 1 := by rw [IntKind.wrap_i64]; omega
      have e2 : min (rungF k).toNat (IntKind.bits .i64) = (rungF k).toNat := by show min (rungF k).toNat 64 = _; omega
      have e3 : min (rungF k - 1).toNat (IntKind.bits .i64) = (rungF k - 1).toNat := by show min (rungF k - 1).toNat 64 = _; omega
      rw [e1, e2, e3]
      unfold snapF
      rw [Int.fdiv_eq_ediv_of_nonneg _ (Int.pow_nonneg (by decide)), Int.fdiv_eq_ediv_of_nonneg _ (Int.pow_nonneg (by decide)), IntKind.wrap_i64, IntKind.wrap_i64]
      have : (rungF k - 1).toNat = (rungF k).toNat - 1 := by omega
      rw [this]
      have h1 : 1 ≤ (rungF k).toNat := by omega
      have h2 : (rungF k).toNat ≤ 28 := by omega
      generalize (rungF k).toNat = r at *
      have cases : r = 1 ∨ r = 2 ∨ r = 3 ∨ r = 4 ∨ r = 5 ∨ r = 6 ∨ r = 7 ∨ r = 8 ∨ r = 9 ∨ r = 10 ∨ r = 11 ∨ r = 12 ∨ r = 13 ∨ r = 14 ∨ r = 15 ∨ r = 16 ∨ r = 17 ∨ r = 18 ∨ r = 19 ∨ r = 20 ∨ r = 21 ∨ r = 22 ∨ r = 23 ∨ r = 24 ∨ r = 25 ∨ r = 26 ∨ r = 27 ∨ r = 28 := by omega
      clear this h0 g0 hk e1 e2 e3
      rcases cases with rfl | rfl | rfl | rfl | rfl | rfl | rfl | rfl | rfl | rfl | rfl | rfl | rfl | rfl | rfl | rfl | rfl | rfl | rfl | rfl | rfl | rfl | rfl | rfl | rfl | rfl | rfl | rfl <;> omega) rfl, rfl, trivial⟩
theorem of_pt_ret (p : Pt) (k : Int) (hx : Bd 1073741824 p.x) (hy : Bd 1073741824 p.y) : Ret Try.prog 18 [] [pt p.x p.y, i64 k] (pt (snapF p.x k) (snapF p.y k)) [] := by
  refine ret_of Try.func18 rfl rfl rfl ?_
  refine RC.use (snap_ret p.x k hx) rfl ?_
  refine RC.use (snap_ret p.y k hy) rfl ?_
  refine CL.yes (by kernel_rfl) ?_
  exact ⟨rfl, rfl, trivial⟩

/-! ### Chains -/
abbrev isl (D : List Int) : AV := .sl none (D.map fun n => i64 n)
abbrev psl (V : List Pt) : AV := .sl (some 2) (V.map pxv)
abbrev chA (V : List Pt) (D : List Int) : AV := .ag [psl V, isl D]
def newV (a b : Pt) : List Pt := if a = b then [a] else [a, b]
def newD (a b : Pt) : List Int := if a = b then [] else [1]
theorem int_get {D : List Int} {j : Nat} {e : Int} (h : D[j]? = some e) : (D.map fun n => i64 n)[j]? = some (i64 e) := by rw [List.getElem?_map, h]; rfl
/-- A nil slice as an empty one, in a struct. -/
theorem ag_weak {h : PH} {ρ : Ro} {cs cs' : List AV} {v : Value} (r : R2 h ρ (.ag cs) v) (hl : cs'.length = cs.length) (hw : ∀ (j : Nat) c c', cs[j]? = some c → cs'[j]? = some c' → c' = c ∨ (c = .nilsl ∧ ∃ z, c' = .sl z [])) : R2 h ρ (.ag cs') v := by
  obtain ⟨vs, rfl, hvl, hv⟩ := r.ag_inv
  refine .lf (.ag cs' vs (by rw [hvl, hl]) fun j c v e1 e2 => ?_)
  have hj : j < cs.length := by rw [← hl]; exact (List.getElem?_eq_some_iff.1 e1).1
  have e3 := List.getElem?_eq_getElem hj
  have r0 := hv j _ v e3 e2
  rcases hw j _ c e3 e1 with h1 | ⟨h1, z, h2⟩
  · rw [h1]; exact r0
  · rw [h1] at r0
    rw [h2, r0.nilsl_inv]
    exact .lf (.cl rfl (.sl0 z none 0))
theorem chainNew_ret (a b : Pt) : Ret Try.prog 17 [] [pt a.x a.y, pt b.x b.y] (chA (newV a b) (newD a b)) [] := by
  by_cases hab : a = b
  · subst hab
    have : Ret Try.prog 17 [] [pt a.x a.y, pt a.x a.y] (.ag [psl [a], .nilsl]) [] := by
      have hb : (a.x == a.x && (a.y == a.y && true)) = true := by simp
      refine ret_of Try.func17 rfl rfl rfl ?_
      refine BM.yes hb ?_
      exact ⟨rfl, rfl, trivial⟩
    refine ret_weak this fun h ρ v r => ?_
    unfold newV newD
    rw [if_pos rfl, if_pos rfl]
    refine ag_weak r rfl fun j c c' e1 e2 => ?_
    match j with
    | 0 => simp at e1 e2; exact .inl (by rw [← e1, ← e2])
    | 1 => simp at e1 e2; exact .inr ⟨e1.symm, none, e2.symm⟩
    | j + 2 => simp at e1
  · have hb : (a.x == b.x && (a.y == b.y && true)) = false := by
      cases a; cases b
      simp at hab ⊢
      exact hab
    unfold newV newD
    rw [if_neg hab, if_neg hab]
    refine ret_of Try.func17 rfl rfl rfl ?_
    refine BM.no hb ?_
    exact ⟨rfl, rfl, trivial⟩
theorem clone_ret (V : List Pt) (D : List Int) (hV : V.length ≤ 1000000) (hD : D.length ≤ 1000000) : Ret Try.prog 37 [] [chA V D] (chA V D) [] := by
  refine ret_of Try.func37 rfl rfl rfl ?_
  refine ⟨(show 0 ≤ (↑(List.map pxv V).length : Int) from (by simp)), rfl, (show (↑(List.map pxv V).length : Int) * (↑16 : Int) ≤ 140737488355328 from (by simp [IntKind.wrap_i64] at *; omega)), ?_⟩
  refine ⟨(show (↑(List.map pxv V).length : Int) ≤ 140737488355328 from (by simp [IntKind.wrap_i64] at *; omega)), ?_⟩
  refine ⟨(show 0 ≤ (↑(List.map (fun (n : Int) => i64 n) D).length : Int) from (by simp)), rfl, (show (↑(List.map (fun (n : Int) => i64 n) D).length : Int) * (↑8 : Int) ≤ 140737488355328 from (by simp [IntKind.wrap_i64] at *; omega)), ?_⟩
  refine ⟨(show (↑(List.map (fun (n : Int) => i64 n) D).length : Int) ≤ 140737488355328 from (by simp [IntKind.wrap_i64] at *; omega)), ?_⟩
  refine CL.yes (by kernel_rfl) ?_
  refine BM.yes (show (true && true && true && true && (List.map pxv V).length.beq (List.replicate (↑(List.map pxv V).length : Int).toNat (zeroEl { size := 2, bytes := 16, d := TD.struct [(0, 1), (1, 1)], zero := [AV.int IntKind.i64 0, AV.int IntKind.i64 0], ft := [3, 3], cmp := true })).length) = true from by simp) ?_
  refine ⟨(.inr rfl), ?_⟩
  refine BM.yes (show (true && true && true && true && (List.map (fun (n : Int) => i64 n) D).length.beq (List.replicate (↑(List.map (fun (n : Int) => i64 n) D).length : Int).toNat (zeroEl { size := 1, bytes := 8, d := TD.int IntKind.i64, zero := [AV.int IntKind.i64 0] })).length) = true from by simp) ?_
  refine ⟨(.inr rfl), ?_⟩
  exact ⟨rfl, rfl, trivial⟩
def depF : List Int → Int → Int
  | [], n => n
  | d :: D, n => depF D (if d > n then d else n)
theorem depth_ret (V : List Pt) (D : List Int) (hV : V.length ≤ 1000000) (hD : D.length ≤ 1000000) : Ret Try.prog 23 [] [chA V D] (i64 (depF D 0)) [] := by
  refine ret_of Try.func23 rfl rfl rfl ?_
  refine ⟨Nat × Int, fun x => ⟨[(2, i64 0), (3, i64 x.2), (7, isl D), (8, i64 (D.map fun n => i64 n).length), (9, i64 x.1)], [], 0⟩, fun x => x.1 ≤ D.length ∧ depF (D.drop x.1) x.2 = depF D 0, fun x => D.length - x.1, (0, 0),
    [], ⟨Nat.zero_le _, rfl⟩, ⟨rfl, rfl, rfl, ⟨rfl, rfl, rfl, rfl, rfl, rfl, rfl, rfl, rfl, rfl, trivial⟩, trivial⟩, ?_⟩
  intro x hx
  obtain ⟨j, n⟩ := x
  obtain ⟨hj, hd⟩ : j ≤ D.length ∧ depF (D.drop j) n = depF D 0 := hx
  refine BM.split (fun h0 => ?_) (fun h0 => ?_)
  · have h0 : (decide ((↑j : Int) < (↑(List.map (fun (n : Int) => i64 n) D).length : Int))) = true := h0
    have g0 : (↑j : Int) < (↑(List.map (fun (n : Int) => i64 n) D).length : Int) := of_decide_eq_true h0
    refine BM.yes h0 ?_
    obtain ⟨e1, he1⟩ : ∃ e, D[(↑j : Int).toNat]? = some e := ⟨_, List.getElem?_eq_getElem (show (↑j : Int).toNat < D.length from by simp at *; omega)⟩
    refine WE.intro (show (List.map (fun (n : Int) => i64 n) D)[(↑j : Int).toNat]? = some (i64 e1) from by rw [List.getElem?_map, he1]; rfl) ?_
    have hj' : j < D.length := by simp at g0; omega
    have he1 : D[j]? = some e1 := he1
    have hd' : depF (D.drop (j + 1)) (if e1 > n then e1 else n) = depF D 0 := by
      rw [← hd, List.drop_eq_getElem_cons hj', depF]
      rw [List.getElem?_eq_getElem hj'] at he1
      cases he1
      rfl
    exact ⟨(j + 1, if e1 > n then e1 else n), [], ⟨hj', hd'⟩, (show D.length - (j + 1) < D.length - j by omega), ⟨rfl, rfl, rfl, ⟨rfl, rfl, rfl, rfl, rfl, rfl, rfl, rfl, congrArg (AV.int .i64) (succ_wrap j (by omega)), rfl, trivial⟩, trivial⟩⟩
  · have h0 : (decide ((↑j : Int) < (↑(List.map (fun (n : Int) => i64 n) D).length : Int))) = false := h0
    have g0 : ¬(↑j : Int) < (↑(List.map (fun (n : Int) => i64 n) D).length : Int) := of_decide_eq_false h0
    exact ⟨eq2 (AV.int IntKind.i64 n) (by simp at g0; rw [← hd, List.drop_eq_nil_of_le (by omega)]; rfl) rfl, rfl, trivial⟩
theorem many_ret (V : List Pt) (D : List Int) (hV : V.length ≤ 1000000) (hD : D.length ≤ 1000000) : Ret Try.prog 11 [] [chA V D] (i64 (V.length + D.length)) [] := by
  refine ret_of Try.func11 rfl rfl rfl ?_
  exact ⟨eq2 (AV.int IntKind.i64 (IntKind.i64.wrap ((↑(List.map pxv V).length : Int) + (↑(List.map (fun (n : Int) => i64 n) D).length : Int)))) (by simp only [List.length_map]; rw [w64 _ (by omega) (by omega)]) rfl, rfl, trivial⟩

end Go.Proofs.Ytllaijapijinoaa

namespace Go.Proofs.Ytllaijapijinoaa
open Go.Cw
set_option linter.all false

def spV (V : List Pt) (l : Nat) (at' : List Pt) : List Pt := V.take (l + 1) ++ at' ++ V.drop (l + 1)
def spD (D : List Int) (l n : Nat) (d : Int) : List Int := D.take l ++ List.replicate (n + 1) (d + 1) ++ D.drop (l + 1)
def spS (V : List Pt) (D : List Int) (l : Nat) (at' : List Pt) (d : Int) (j : Nat) : St :=
  ⟨[(1, i64 l), (2, psl at'), (3, .ptr 0 0), (6, .ptr 1 0), (7, .bool false), (8, .osl 2), (40, dn (at'.length + 1)), (41, dn j)],
   [(0, .cells 34 [psl V, isl D]), (1, .cells 34 [.nilsl, .nilsl]), (2, .row 3 none (List.replicate j (i64 (d + 1)) ++ List.replicate (at'.length + 1 - j) (i64 0)))], 3⟩
theorem split_ok {V at' : List Pt} {D : List Int} {l : Nat} {d : Int} (hV : V.length ≤ 1000000) (hD : D.length ≤ 1000000) (hA : at'.length ≤ 1000000) (hd : D[l]? = some d) (hdi : -9223372036854775808 ≤ d ∧ d < 9223372036854775807) (hlv : l + 1 < V.length) (hne : at' ≠ []) :
    Ret Try.prog 21 [] [chA V D, i64 l, psl at'] (.tup [chA (spV V l at') (spD D l at'.length d), .bool true]) [] := by
  have hl : l < D.length := (List.getElem?_eq_some_iff.1 hd).1
  have hA0 : 0 < at'.length := List.length_pos_iff.2 hne
  have hb0 : decide ((↑l : Int) ≥ (↑(List.map (fun (n : Int) => i64 n) D).length : Int)) = false := by simp; omega
  have hb1 : decide (IntKind.i64.wrap ((↑l : Int) + 1) ≥ (↑(List.map pxv V).length : Int)) = false := by rw [IntKind.wrap_i64]; simp; omega
  have hb2 : ((↑(List.map pxv at').length : Int) == 0) = false := by simp; exact hne
  refine ret_tree (.seq .fin (.seq .fin (.seq .fin (.seq .fin (.here (.seq .fin (.here .fin))))))) Try.func21 rfl rfl rfl ?_
  refine BM.no hb0 ?_
  refine BM.no hb1 ?_
  refine BM.no hb2 ?_
  have hw : IntKind.i64.wrap ((↑(List.map pxv at').length : Int) + 1) = ((at'.length + 1 : Nat) : Int) := by rw [IntKind.wrap_i64]; simp; omega
  refine ⟨(show 0 ≤ IntKind.i64.wrap ((↑(List.map pxv at').length : Int) + 1) from (by rw [hw]; omega)), rfl, (show IntKind.i64.wrap ((↑(List.map pxv at').length : Int) + 1) * (↑8 : Int) ≤ 140737488355328 from (by rw [hw]; omega)), ?_⟩
  refine ⟨(show IntKind.i64.wrap ((↑(List.map pxv at').length : Int) + 1) ≤ 140737488355328 from (by rw [hw]; omega)), ?_⟩
  refine ⟨Nat, spS V D l at' d, fun j => j ≤ at'.length + 1, fun j => at'.length + 1 - j, 0, [(0, 0), (1, 1), (2, 2)], Nat.zero_le _,
    ⟨rfl, rfl, rfl, ⟨rfl, rfl, rfl, rfl, rfl, rfl, rfl, rfl, rfl, rfl, rfl, rfl, (show AV.int IntKind.i64 (↑(List.replicate (IntKind.i64.wrap ((↑(List.map pxv at').length : Int) + 1)).toNat (i64 0)).length : Int) = dn (at'.length + 1) by rw [hw]; simp), rfl, rfl, rfl, trivial⟩, ⟨rfl, rfl, rfl, rfl, (show ABlk.row 3 none (List.replicate (IntKind.i64.wrap ((↑(List.map pxv at').length : Int) + 1)).toNat (i64 0)) = _ by rw [hw]; rfl), rfl, trivial⟩⟩, ?_⟩
  intro j hj
  have hj : j ≤ at'.length + 1 := hj
  have hd' : D[(↑l : Int).toNat]? = some d := hd
  refine BM.split (fun h0 => ?_) (fun h0 => ?_)
  · have h0 : (decide ((↑j : Int) < (↑(at'.length + 1) : Int))) = true := h0
    have g0 : (↑j : Int) < (↑(at'.length + 1) : Int) := of_decide_eq_true h0
    have hr : (List.replicate j (i64 (d + 1)) ++ List.replicate (at'.length + 1 - j) (i64 0))[(↑j : Int).toNat]? = some (i64 0) := by
      rw [Int.toNat_natCast, List.getElem?_append_right (by simp)]
      have : 0 < at'.length + 1 - j := by omega
      simp [this]
    refine BM.yes (show (true && decide (0 ≤ (↑l : Int)) && decide ((↑l : Int) < (↑(List.map (fun (n : Int) => i64 n) D).length : Int))) = true from by simp; omega) ?_
    refine WE.intro (show (List.map (fun (n : Int) => i64 n) D)[(↑l : Int).toNat]? = some (i64 d) from by rw [List.getElem?_map]; exact congrArg _ hd) ?_
    refine BM.yes (show (true && decide (0 ≤ (↑j : Int)) && decide ((↑j : Int) < (↑(List.replicate j (i64 (d + 1)) ++ List.replicate (at'.length + 1 - j) (i64 0)).length : Int))) = true from by simp; omega) ?_
    refine WE.intro hr ?_
    have hset : (List.replicate j (i64 (d + 1)) ++ List.replicate (at'.length + 1 - j) (i64 0)).set (↑j : Int).toNat (i64 (IntKind.wrap .i64 (d + 1))) = List.replicate (j + 1) (i64 (d + 1)) ++ List.replicate (at'.length + 1 - (j + 1)) (i64 0) := by
      rw [w64 (d + 1) (by omega) (by omega), Int.toNat_natCast, List.set_append_right _ _ (by simp), List.length_replicate, Nat.sub_self, show at'.length + 1 - j = (at'.length - j) + 1 by omega, List.replicate_succ, List.set_cons_zero, List.replicate_succ', List.append_assoc]
      rw [show at'.length + 1 - (j + 1) = at'.length - j by omega]
      rfl
    exact ⟨j + 1, [(0, 0), (1, 1), (2, 2)], (show j + 1 ≤ at'.length + 1 by omega), (show at'.length + 1 - (j + 1) < at'.length + 1 - j by omega), ⟨rfl, rfl, rfl, ⟨rfl, rfl, rfl, rfl, rfl, rfl, rfl, rfl, rfl, rfl, rfl, rfl, rfl, rfl, congrArg (AV.int .i64) (succ_wrap j (by omega)), rfl, trivial⟩, ⟨rfl, rfl, rfl, rfl, congrArg (ABlk.row 3 none) hset, rfl, trivial⟩⟩⟩
  · have h0 : (decide ((↑j : Int) < (↑(at'.length + 1) : Int))) = false := h0
    have g0 : ¬(↑j : Int) < (↑(at'.length + 1) : Int) := of_decide_eq_false h0
    have hjn : j = at'.length + 1 := by omega
    have hA1 : decide (0 < (List.map pxv at').length) = true := by simp; omega
    have hA2 : decide (0 < (List.replicate (at'.length + 1) (i64 (d + 1))).length) = true := by simp
    have hrow : List.replicate j (i64 (d + 1)) ++ List.replicate (at'.length + 1 - j) (i64 0) = List.replicate (at'.length + 1) (i64 (d + 1)) := by subst hjn; simp
    refine ⟨⟨[(1, i64 l), (2, psl at'), (3, .ptr 0 0), (6, .ptr 1 0), (7, .bool false), (8, .osl 2)],
     [(0, .cells 34 [psl V, isl D]), (1, .cells 34 [.nilsl, .nilsl]), (2, .row 3 none (List.replicate (at'.length + 1) (i64 (d + 1))))], 3⟩,
     [(0, 0), (1, 1), (2, 2)], ⟨rfl, rfl, rfl, ⟨rfl, rfl, rfl, rfl, rfl, rfl, rfl, rfl, rfl, rfl, rfl, rfl, trivial⟩, ⟨rfl, rfl, rfl, rfl, congrArg (ABlk.row 3 none) hrow, rfl, trivial⟩⟩, ?_⟩
    refine BM.yes (show (decide (0 ≤ IntKind.i64.wrap ((↑l : Int) + 1)) && decide (IntKind.i64.wrap ((↑l : Int) + 1) = IntKind.i64.wrap ((↑l : Int) + 1)) && decide (IntKind.i64.wrap ((↑l : Int) + 1) ≤ (↑(List.map pxv V).length : Int))) = true from by simp [IntKind.wrap_i64] at *; omega) ?_
    refine BM.yes hA1 ?_
    refine ⟨(show ((List.take (IntKind.i64.wrap ((↑l : Int) + 1)).toNat (List.map pxv V)).length + (List.map pxv at').length) * 16 ≤ 140737488355328 from (by simp only [List.length_append, List.length_take, List.length_drop, List.length_map, List.length_replicate, List.length_cons, List.length_nil]; omega)), (show (List.take (IntKind.i64.wrap ((↑l : Int) + 1)).toNat (List.map pxv V)).length + (List.map pxv at').length ≤ 140737488355328 from (by simp only [List.length_append, List.length_take, List.length_drop, List.length_map, List.length_replicate, List.length_cons, List.length_nil]; omega)), rfl, ?_⟩
    refine ⟨(.inr rfl), ?_⟩
    refine BM.yes (show (decide (0 ≤ IntKind.i64.wrap ((↑l : Int) + 1)) && decide (IntKind.i64.wrap ((↑l : Int) + 1) ≤ (↑(List.map pxv V).length : Int))) = true from by simp [IntKind.wrap_i64] at *; omega) ?_
    refine ⟨(show ((List.take (IntKind.i64.wrap ((↑l : Int) + 1)).toNat (List.map pxv V) ++ List.map pxv at').length + (List.drop (IntKind.i64.wrap ((↑l : Int) + 1)).toNat (List.map pxv V)).length) * 16 ≤ 140737488355328 from (by simp only [List.length_append, List.length_take, List.length_drop, List.length_map, List.length_replicate, List.length_cons, List.length_nil]; omega)), (show (List.take (IntKind.i64.wrap ((↑l : Int) + 1)).toNat (List.map pxv V) ++ List.map pxv at').length + (List.drop (IntKind.i64.wrap ((↑l : Int) + 1)).toNat (List.map pxv V)).length ≤ 140737488355328 from (by simp only [List.length_append, List.length_take, List.length_drop, List.length_map, List.length_replicate, List.length_cons, List.length_nil]; omega)), (.inr rfl), ?_⟩
    refine CL.yes (by kernel_rfl) ?_
    refine ⟨⟨[(1, AV.int IntKind.i64 (↑l : Int)), (3, AV.ptr 0 0), (6, AV.ptr 1 0), (7, AV.bool false), (8, AV.osl 2), (10, AV.osl 3)],
     [(0, ABlk.cells 34 [AV.sl (some 2) (List.map pxv V), AV.sl none (List.map (fun (n : Int) => i64 n) D)]), (1, ABlk.cells 34 [AV.nilsl, AV.nilsl]), (2, ABlk.row 3 none (AV.int IntKind.i64 (d + 1) :: List.replicate at'.length (i64 (d + 1)))), (3, ABlk.row 38 (some 2) (List.take ((↑l : Int) + 1).toNat (List.map pxv V) ++ List.map pxv at' ++ List.drop ((↑l : Int) + 1).toNat (List.map pxv V)))], 4⟩,
     [(0, 0), (1, 1), (2, 2), (3, 4)], ⟨rfl, rfl, rfl, ⟨rfl, rfl, rfl, rfl, rfl, rfl, rfl, rfl, rfl, rfl, rfl, rfl, trivial⟩, ⟨rfl, rfl, rfl, rfl, rfl, rfl, (show ABlk.row 38 (some 2) (List.take (IntKind.i64.wrap ((↑l : Int) + 1)).toNat (List.map pxv V) ++ List.map pxv at' ++ List.drop (IntKind.i64.wrap ((↑l : Int) + 1)).toNat (List.map pxv V)) = ABlk.row 38 (some 2) (List.take ((↑l : Int) + 1).toNat (List.map pxv V) ++ List.map pxv at' ++ List.drop ((↑l : Int) + 1).toNat (List.map pxv V)) from by rw [show IntKind.i64.wrap ((↑l : Int) + 1) = (↑l : Int) + 1 from by rw [IntKind.wrap_i64]; omega]), rfl, trivial⟩⟩, ?_⟩
    refine BM.yes (show (decide (0 ≤ (↑l : Int)) && decide ((↑l : Int) = (↑l : Int)) && decide ((↑l : Int) ≤ (↑(List.map (fun (n : Int) => i64 n) D).length : Int))) = true from by simp; omega) ?_
    refine ⟨(show ((List.take (↑l : Int).toNat (List.map (fun (n : Int) => i64 n) D)).length + (AV.int IntKind.i64 (d + 1) :: List.replicate at'.length (i64 (d + 1))).length) * 8 ≤ 140737488355328 from (by simp only [List.length_append, List.length_take, List.length_drop, List.length_map, List.length_replicate, List.length_cons, List.length_nil]; omega)), (show (List.take (↑l : Int).toNat (List.map (fun (n : Int) => i64 n) D)).length + (AV.int IntKind.i64 (d + 1) :: List.replicate at'.length (i64 (d + 1))).length ≤ 140737488355328 from (by simp only [List.length_append, List.length_take, List.length_drop, List.length_map, List.length_replicate, List.length_cons, List.length_nil]; omega)), rfl, ?_⟩
    refine ⟨(.inr rfl), ?_⟩
    refine BM.yes (show (decide (0 ≤ IntKind.i64.wrap ((↑l : Int) + 1)) && decide (IntKind.i64.wrap ((↑l : Int) + 1) ≤ (↑(List.map (fun (n : Int) => i64 n) D).length : Int))) = true from by simp [IntKind.wrap_i64] at *; omega) ?_
    refine ⟨(show ((List.take (↑l : Int).toNat (List.map (fun (n : Int) => i64 n) D) ++ AV.int IntKind.i64 (d + 1) :: List.replicate at'.length (i64 (d + 1))).length + (List.drop (IntKind.i64.wrap ((↑l : Int) + 1)).toNat (List.map (fun (n : Int) => i64 n) D)).length) * 8 ≤ 140737488355328 from (by simp only [List.length_append, List.length_take, List.length_drop, List.length_map, List.length_replicate, List.length_cons, List.length_nil]; omega)), (show (List.take (↑l : Int).toNat (List.map (fun (n : Int) => i64 n) D) ++ AV.int IntKind.i64 (d + 1) :: List.replicate at'.length (i64 (d + 1))).length + (List.drop (IntKind.i64.wrap ((↑l : Int) + 1)).toNat (List.map (fun (n : Int) => i64 n) D)).length ≤ 140737488355328 from (by simp only [List.length_append, List.length_take, List.length_drop, List.length_map, List.length_replicate, List.length_cons, List.length_nil]; omega)), (.inr rfl), ?_⟩
    refine CL.yes (by kernel_rfl) ?_
    exact ⟨eq2 (AV.tup [AV.ag [AV.sl (some 2) (List.take ((↑l : Int) + 1).toNat (List.map pxv V) ++ List.map pxv at' ++ List.drop ((↑l : Int) + 1).toNat (List.map pxv V)), AV.sl none (List.take (↑l : Int).toNat (List.map (fun (n : Int) => i64 n) D) ++ AV.int IntKind.i64 (d + 1) :: List.replicate at'.length (i64 (d + 1)) ++ List.drop (IntKind.i64.wrap ((↑l : Int) + 1)).toNat (List.map (fun (n : Int) => i64 n) D))], AV.bool true]) (by
      rw [show IntKind.i64.wrap ((↑l : Int) + 1) = (↑l : Int) + 1 from by rw [IntKind.wrap_i64]; omega]
      have e1 : ((l : Int) + 1).toNat = l + 1 := by omega
      rw [e1, Int.toNat_natCast]
      unfold spV spD
      simp only [chA, psl, isl, List.map_append, List.map_take, List.map_drop, List.replicate_succ, List.map_cons, List.map_replicate]) rfl, rfl, trivial⟩

/-- Where there is no such link, or nothing to go through. -/
theorem split_no {V at' : List Pt} {D : List Int} {l : Int} (hV : V.length ≤ 1000000) (hD : D.length ≤ 1000000) (hl : -4611686018427387904 ≤ l ∧ l ≤ 4611686018427387904) (hno : l < 0 ∨ (D.length : Int) ≤ l ∨ (V.length : Int) ≤ l + 1 ∨ at' = []) :
    Ret Try.prog 21 [] [chA V D, i64 l, psl at'] (.tup [chA [] [], .bool false]) [] := by
  refine ret_weak (r := .tup [.ag [.nilsl, .nilsl], .bool false]) ?_ fun h ρ v r => ?_
  rotate_left
  · obtain ⟨vs, rfl, hl, hv⟩ := r.tup_inv
    refine .tup _ vs (by rw [hl]; rfl) fun j c v e1 e2 => ?_
    match j with
    | 0 =>
      simp at e1
      subst e1
      have := ag_weak (.lf (hv 0 _ v rfl e2)) (cs' := [psl [], isl []]) rfl fun j c c' e1 e2 => by
        match j with
        | 0 => simp at e1 e2; exact .inr ⟨e1.symm, some 2, e2.symm⟩
        | 1 => simp at e1 e2; exact .inr ⟨e1.symm, none, e2.symm⟩
        | j + 2 => simp at e1
      exact this.r1 (fun vs e => by cases e)
    | 1 => exact hv 1 _ v e1 e2
    | j + 2 => simp at e1
  refine ret_of Try.func21 rfl rfl rfl ?_
  refine BM.split (fun h0 => ?_) (fun h0 => ?_)
  · have h0 : (decide (l < 0)) = true := h0
    have g0 : l < 0 := of_decide_eq_true h0
    exact ⟨rfl, rfl, trivial⟩
  · have h0 : (decide (l < 0)) = false := h0
    have g0 : ¬l < 0 := of_decide_eq_false h0
    refine BM.split (fun h1 => ?_) (fun h1 => ?_)
    · have h1 : (decide (l ≥ (↑(List.map (fun (n : Int) => i64 n) D).length : Int))) = true := h1
      have g1 : l ≥ (↑(List.map (fun (n : Int) => i64 n) D).length : Int) := of_decide_eq_true h1
      exact ⟨rfl, rfl, trivial⟩
    · have h1 : (decide (l ≥ (↑(List.map (fun (n : Int) => i64 n) D).length : Int))) = false := h1
      have g1 : ¬l ≥ (↑(List.map (fun (n : Int) => i64 n) D).length : Int) := of_decide_eq_false h1
      refine BM.split (fun h2 => ?_) (fun h2 => ?_)
      · have h2 : (decide (IntKind.i64.wrap (l + 1) ≥ (↑(List.map pxv V).length : Int))) = true := h2
        have g2 : l + 1 ≥ (↑(List.map pxv V).length : Int) := (by have q := of_decide_eq_true h2; rw [show IntKind.i64.wrap (l + 1) = l + 1 from by rw [IntKind.wrap_i64]; omega] at q; exact q)
        exact ⟨rfl, rfl, trivial⟩
      · have h2 : (decide (IntKind.i64.wrap (l + 1) ≥ (↑(List.map pxv V).length : Int))) = false := h2
        have g2 : ¬l + 1 ≥ (↑(List.map pxv V).length : Int) := (by have q := of_decide_eq_false h2; rw [show IntKind.i64.wrap (l + 1) = l + 1 from by rw [IntKind.wrap_i64]; omega] at q; exact q)
        refine BM.split (fun h3 => ?_) (fun h3 => ?_)
        · have h3 : ((↑(List.map pxv at').length : Int) == 0) = true := h3
          have g3 : (↑(List.map pxv at').length : Int) = 0 := eq_of_beq h3
          exact ⟨rfl, rfl, trivial⟩
        · have h3 : ((↑(List.map pxv at').length : Int) == 0) = false := h3
          have g3 : ¬(↑(List.map pxv at').length : Int) = 0 := ne_of_beq_false h3
          exact False.elim (by
          simp only [List.length_map] at g1 g2 g3
          rcases hno with h | h | h | h
          · omega
          · omega
          · omega
          · subst h; exact g3 rfl)

end Go.Proofs.Ytllaijapijinoaa

set_option linter.all false
namespace Go.Proofs.Ytllaijapijinoaa
open Go.Cw

def ieqF (D E : List Int) : Bool := decide (D = E)
def peqF (V W : List Pt) : Bool := decide (V = W)
theorem take_succ_eq {α : Type} {D E : List α} {j : Nat} {a b : α} (h : D.take j = E.take j) (ha : D[j]? = some a) (hb : E[j]? = some b) : D.take (j + 1) = E.take (j + 1) ↔ a = b := by
  rw [List.take_add_one, List.take_add_one, h, ha, hb]
  simp
theorem ieq_ret (D E : List Int) (hD : D.length ≤ 1000000) (hE : E.length ≤ 1000000) : Ret Try.prog 81 [] [isl D, isl E] (.bool (ieqF D E)) [] := by
  refine ret_of Try.func81 rfl rfl rfl ?_
  refine BM.split (fun h0 => ?_) (fun h0 => ?_)
  · have h0 : ((↑(List.map (fun (n : Int) => i64 n) D).length : Int) != (↑(List.map (fun (n : Int) => i64 n) E).length : Int)) = true := h0
    exact ⟨eq2 (AV.bool false) (by simp at h0; congr 1; exact decide_eq_false fun e => h0 (by rw [e])) rfl, rfl, trivial⟩
  · have h0 : ((↑(List.map (fun (n : Int) => i64 n) D).length : Int) != (↑(List.map (fun (n : Int) => i64 n) E).length : Int)) = false := h0
    have hl : D.length = E.length := by simp at h0; omega
    refine ⟨Nat, fun j => ⟨[(0, isl D), (1, isl E), (4, .bool false), (12, dn D.length), (13, dn j)], [], 0⟩, fun j => j ≤ D.length ∧ D.take j = E.take j, fun j => D.length - j, 0,
      [], ⟨Nat.zero_le _, by simp⟩, ⟨rfl, rfl, rfl, ⟨rfl, rfl, rfl, rfl, rfl, rfl, (show AV.int .i64 _ = AV.int .i64 _ by congr 1; simp), rfl, rfl, rfl, trivial⟩, trivial⟩, ?_⟩
    intro j hI
    obtain ⟨hj, ht⟩ : j ≤ D.length ∧ D.take j = E.take j := hI
    refine BM.split (fun h1 => ?_) (fun h1 => ?_)
    · have h1 : (decide ((↑j : Int) < (↑D.length : Int))) = true := h1
      have g1 : (↑j : Int) < (↑D.length : Int) := of_decide_eq_true h1
      refine BM.yes (show (true && decide (0 ≤ (↑j : Int)) && decide ((↑j : Int) < (↑(List.map (fun (n : Int) => i64 n) D).length : Int))) = true from by simp; omega) ?_
      obtain ⟨e2, he2⟩ : ∃ e, D[(↑j : Int).toNat]? = some e := ⟨_, List.getElem?_eq_getElem (show (↑j : Int).toNat < D.length from by omega)⟩
      refine WE.intro (show (List.map (fun (n : Int) => i64 n) D)[(↑j : Int).toNat]? = some (i64 e2) from by rw [List.getElem?_map, he2]; rfl) ?_
      refine BM.yes (show (true && decide (0 ≤ (↑j : Int)) && decide ((↑j : Int) < (↑(List.map (fun (n : Int) => i64 n) E).length : Int))) = true from by simp; omega) ?_
      obtain ⟨e3, he3⟩ : ∃ e, E[(↑j : Int).toNat]? = some e := ⟨_, List.getElem?_eq_getElem (show (↑j : Int).toNat < E.length from by omega)⟩
      refine WE.intro (show (List.map (fun (n : Int) => i64 n) E)[(↑j : Int).toNat]? = some (i64 e3) from by rw [List.getElem?_map, he3]; rfl) ?_
      refine CL.yes (by kernel_rfl) ?_
      refine BM.split (fun h4 => ?_) (fun h4 => ?_)
      · have h4 : (e2 != e3) = true := h4
        exact ⟨eq2 (AV.bool false) (by 
          congr 1
          have he2 : D[j]? = some e2 := he2
          have he3 : E[j]? = some e3 := he3
          exact decide_eq_false fun e => by rw [e, he3] at he2; cases he2; simp at h4) rfl, rfl, trivial⟩
      · have h4 : (e2 != e3) = false := h4
        have he2 : D[j]? = some e2 := he2
        have he3 : E[j]? = some e3 := he3
        have hee : e2 = e3 := by simpa using h4
        exact ⟨j + 1, [], ⟨by omega, (take_succ_eq ht he2 he3).2 hee⟩, (show D.length - (j + 1) < D.length - j by omega), ⟨rfl, rfl, rfl, ⟨rfl, rfl, rfl, rfl, rfl, rfl, rfl, rfl, congrArg (AV.int .i64) (succ_wrap j (by omega)), rfl, trivial⟩, trivial⟩⟩
    · have h1 : (decide ((↑j : Int) < (↑D.length : Int))) = false := h1
      have g1 : ¬(↑j : Int) < (↑D.length : Int) := of_decide_eq_false h1
      exact ⟨eq2 (AV.bool true) (by 
        have hjl : j = D.length := by omega
        congr 1
        refine decide_eq_true ?_
        subst hjl
        rw [List.take_length] at ht
        rw [ht, hl, List.take_length]) rfl, rfl, trivial⟩
theorem peq_ret (V W : List Pt) (hV : V.length ≤ 1000000) (hW : W.length ≤ 1000000) : Ret Try.prog 80 [] [psl V, psl W] (.bool (peqF V W)) [] := by
  refine ret_of Try.func80 rfl rfl rfl ?_
  refine BM.split (fun h0 => ?_) (fun h0 => ?_)
  · have h0 : ((↑(List.map pxv V).length : Int) != (↑(List.map pxv W).length : Int)) = true := h0
    exact ⟨eq2 (AV.bool false) (by simp at h0; congr 1; exact decide_eq_false fun e => h0 (by rw [e])) rfl, rfl, trivial⟩
  · have h0 : ((↑(List.map pxv V).length : Int) != (↑(List.map pxv W).length : Int)) = false := h0
    have hl : V.length = W.length := by simp at h0; omega
    refine ⟨Nat, fun j => ⟨[(0, psl V), (1, psl W), (4, .bool false), (12, dn V.length), (13, dn j)], [], 0⟩, fun j => j ≤ V.length ∧ V.take j = W.take j, fun j => V.length - j, 0,
      [], ⟨Nat.zero_le _, by simp⟩, ⟨rfl, rfl, rfl, ⟨rfl, rfl, rfl, rfl, rfl, rfl, (show AV.int .i64 _ = AV.int .i64 _ by congr 1; simp), rfl, rfl, rfl, trivial⟩, trivial⟩, ?_⟩
    intro j hI
    obtain ⟨hj, ht⟩ : j ≤ V.length ∧ V.take j = W.take j := hI
    refine BM.split (fun h1 => ?_) (fun h1 => ?_)
    · have h1 : (decide ((↑j : Int) < (↑V.length : Int))) = true := h1
      have g1 : (↑j : Int) < (↑V.length : Int) := of_decide_eq_true h1
      refine BM.yes (show (true && decide (0 ≤ (↑j : Int)) && decide ((↑j : Int) < (↑(List.map pxv V).length : Int))) = true from by simp; omega) ?_
      obtain ⟨e2, he2⟩ : ∃ e, V[(↑j : Int).toNat]? = some e := ⟨_, List.getElem?_eq_getElem (show (↑j : Int).toNat < V.length from by omega)⟩
      refine WE.intro (show (List.map pxv V)[(↑j : Int).toNat]? = some (pxv e2) from by rw [List.getElem?_map, he2]; rfl) ?_
      refine BM.yes rfl ?_
      refine BM.yes (show (true && decide (0 ≤ (↑j : Int)) && decide ((↑j : Int) < (↑(List.map pxv W).length : Int))) = true from by simp; omega) ?_
      obtain ⟨e3, he3⟩ : ∃ e, W[(↑j : Int).toNat]? = some e := ⟨_, List.getElem?_eq_getElem (show (↑j : Int).toNat < W.length from by omega)⟩
      refine WE.intro (show (List.map pxv W)[(↑j : Int).toNat]? = some (pxv e3) from by rw [List.getElem?_map, he3]; rfl) ?_
      refine BM.yes rfl ?_
      refine CL.yes (by kernel_rfl) ?_
      refine BM.split (fun h4 => ?_) (fun h4 => ?_)
      · have h4 : (!(e2.x == e3.x && (e2.y == e3.y && true))) = true := h4
        exact ⟨eq2 (AV.bool false) (by 
          congr 1
          have he2 : V[j]? = some e2 := he2
          have he3 : W[j]? = some e3 := he3
          exact decide_eq_false fun e => by rw [e, he3] at he2; cases he2; simp at h4) rfl, rfl, trivial⟩
      · have h4 : (!(e2.x == e3.x && (e2.y == e3.y && true))) = false := h4
        have he2 : V[j]? = some e2 := he2
        have he3 : W[j]? = some e3 := he3
        have hee : e2 = e3 := by cases e2; cases e3; simpa using h4
        exact ⟨j + 1, [], ⟨by omega, (take_succ_eq ht he2 he3).2 hee⟩, (show V.length - (j + 1) < V.length - j by omega), ⟨rfl, rfl, rfl, ⟨rfl, rfl, rfl, rfl, rfl, rfl, rfl, rfl, congrArg (AV.int .i64) (succ_wrap j (by omega)), rfl, trivial⟩, trivial⟩⟩
    · have h1 : (decide ((↑j : Int) < (↑V.length : Int))) = false := h1
      have g1 : ¬(↑j : Int) < (↑V.length : Int) := of_decide_eq_false h1
      exact ⟨eq2 (AV.bool true) (by 
        have hjl : j = V.length := by omega
        congr 1
        refine decide_eq_true ?_
        subst hjl
        rw [List.take_length] at ht
        rw [ht, hl, List.take_length]) rfl, rfl, trivial⟩
theorem same_ret (V W : List Pt) (D E : List Int) (hV : V.length ≤ 1000000) (hW : W.length ≤ 1000000) (hD : D.length ≤ 1000000) (hE : E.length ≤ 1000000) :
    Ret Try.prog 36 [] [chA V D, chA W E] (.bool (peqF V W && ieqF D E)) [] := by
  refine ret_of Try.func36 rfl rfl rfl ?_
  refine RC.use (peq_ret V W hV hW) rfl ?_
  refine BM.split (fun h0 => ?_) (fun h0 => ?_)
  · have h0 : (peqF V W) = true := h0
    refine RC.use (ieq_ret D E hD hE) rfl ?_
    exact ⟨eq2 (AV.bool (ieqF D E)) (by rw [h0, Bool.true_and]) rfl, rfl, trivial⟩
  · have h0 : (peqF V W) = false := h0
    exact ⟨eq2 (AV.bool false) (by rw [h0, Bool.false_and]) rfl, rfl, trivial⟩
/-! ### Order -/
def upF : List Int → Bool
  | a :: b :: r => decide (a ≤ b) && upF (b :: r)
  | _ => true
def downF : List Int → Bool
  | a :: b :: r => decide (b ≤ a) && downF (b :: r)
  | _ => true
theorem upF_iff : ∀ (D : List Int), upF D = true ↔ ∀ (j : Nat) a b, D[j]? = some a → D[j + 1]? = some b → a ≤ b
  | [] => by simp [upF]
  | [x] => by simp [upF]
  | x :: y :: r => by
    have ih := upF_iff (y :: r)
    rw [upF, Bool.and_eq_true, decide_eq_true_eq, ih]
    constructor
    · rintro ⟨h1, h2⟩ j a b ha hb
      cases j with
      | zero => simp at ha hb; omega
      | succ j => exact h2 j a b (by simpa using ha) (by simpa using hb)
    · intro h
      exact ⟨h 0 x y rfl rfl, fun j a b ha hb => h (j + 1) a b (by simpa using ha) (by simpa using hb)⟩
theorem downF_iff : ∀ (D : List Int), downF D = true ↔ ∀ (j : Nat) a b, D[j]? = some a → D[j + 1]? = some b → b ≤ a
  | [] => by simp [downF]
  | [x] => by simp [downF]
  | x :: y :: r => by
    have ih := downF_iff (y :: r)
    rw [downF, Bool.and_eq_true, decide_eq_true_eq, ih]
    constructor
    · rintro ⟨h1, h2⟩ j a b ha hb
      cases j with
      | zero => simp at ha hb; omega
      | succ j => exact h2 j a b (by simpa using ha) (by simpa using hb)
    · intro h
      exact ⟨h 0 x y rfl rfl, fun j a b ha hb => h (j + 1) a b (by simpa using ha) (by simpa using hb)⟩
theorem isNaNi_ret (x : Int) : Ret Try.prog 139 [] [i64 x] (.bool false) [] := by
  have hb : (x != x) = false := by simp
  refine ret_of Try.func139 rfl rfl rfl ?_
  exact ⟨eq2 (.bool (x != x)) (by rw [hb]) rfl, rfl, trivial⟩
theorem cmpLess_ret (x y : Int) : Ret Try.prog 125 [] [i64 x, i64 y] (.bool (decide (x < y))) [] := by
  refine ret_of Try.func125 rfl rfl rfl ?_
  refine RC.use (isNaN_ret x) rfl ?_
  exact ⟨rfl, rfl, trivial⟩
theorem isSorted_ret (D : List Int) (hD : D.length ≤ 1000000) : Ret Try.prog 91 [] [isl D] (.bool (upF D)) [] := by
  refine ret_of Try.func91 rfl rfl rfl ?_
  refine ⟨Int, fun i => ⟨[(0, isl D), (2, .bool false), (3, i64 i)], [], 0⟩, fun i => -1 ≤ i ∧ i < D.length ∧ ∀ (j : Nat) a b, i < (j : Int) + 1 → D[j]? = some a → D[j + 1]? = some b → a ≤ b, fun i => (i + 1).toNat, (D.length : Int) - 1,
      [], ⟨by omega, by omega, fun j a b h1 h2 h3 => by have := (List.getElem?_eq_some_iff.1 h3).1; omega⟩, ⟨rfl, rfl, rfl, ⟨rfl, rfl, rfl, rfl, (show AV.int .i64 _ = AV.int .i64 _ by congr 1; simp only [List.length_map]; exact w64 _ (by omega) (by omega)), rfl, trivial⟩, trivial⟩, ?_⟩
  intro i hI
  obtain ⟨hi0, hi1, hI⟩ : -1 ≤ i ∧ i < D.length ∧ ∀ (j : Nat) a b, i < (j : Int) + 1 → D[j]? = some a → D[j + 1]? = some b → a ≤ b := hI
  refine BM.split (fun h0 => ?_) (fun h0 => ?_)
  · have h0 : (decide (i > 0)) = true := h0
    have g0 : i > 0 := of_decide_eq_true h0
    refine BM.yes (show (true && decide (0 ≤ i) && decide (i < (↑(List.map (fun (n : Int) => i64 n) D).length : Int))) = true from by simp; omega) ?_
    obtain ⟨e1, he1⟩ : ∃ e, D[i.toNat]? = some e := ⟨_, List.getElem?_eq_getElem (show i.toNat < D.length from by omega)⟩
    refine WE.intro (show (List.map (fun (n : Int) => i64 n) D)[i.toNat]? = some (i64 e1) from by rw [List.getElem?_map, he1]; rfl) ?_
    refine BM.yes (show (true && decide (0 ≤ IntKind.i64.wrap (i - 1)) && decide (IntKind.i64.wrap (i - 1) < (↑(List.map (fun (n : Int) => i64 n) D).length : Int))) = true from by simp [IntKind.wrap_i64] at *; omega) ?_
    obtain ⟨e2, he2⟩ : ∃ e, D[(IntKind.i64.wrap (i - 1)).toNat]? = some e := ⟨_, List.getElem?_eq_getElem (show (IntKind.i64.wrap (i - 1)).toNat < D.length from by rw [w64 _ (by omega) (by omega)]; omega)⟩
    refine WE.intro (show (List.map (fun (n : Int) => i64 n) D)[(IntKind.i64.wrap (i - 1)).toNat]? = some (i64 e2) from by rw [List.getElem?_map, he2]; rfl) ?_
    refine RC.use (cmpLess_ret e1 e2) rfl ?_
    refine CL.yes (by kernel_rfl) ?_
    refine BM.split (fun h3 => ?_) (fun h3 => ?_)
    · have h3 : (decide (e1 < e2)) = true := h3
      have g3 : e1 < e2 := of_decide_eq_true h3
      exact ⟨eq2 (AV.bool false) (by 
        have e : (IntKind.i64.wrap (i - 1)).toNat = i.toNat - 1 := by rw [w64 _ (by omega) (by omega)]; omega
        rw [e] at he2
        have : ¬ upF D = true := fun h => by
          have := (upF_iff D).1 h (i.toNat - 1) e2 e1 he2 (by rw [show i.toNat - 1 + 1 = i.toNat by omega]; exact he1)
          omega
        congr 1
        simpa using this) rfl, rfl, trivial⟩
    · have h3 : (decide (e1 < e2)) = false := h3
      have g3 : ¬e1 < e2 := of_decide_eq_false h3
      have e : IntKind.i64.wrap (i - 1) = i - 1 := w64 _ (by omega) (by omega)
      rw [e, show (i - 1).toNat = i.toNat - 1 by omega] at he2
      refine ⟨i - 1, [], ⟨by omega, by omega, fun j a b h1 h2 h3 => ?_⟩, (show (i - 1 + 1).toNat < (i + 1).toNat by omega), ⟨rfl, rfl, rfl, ⟨rfl, rfl, rfl, rfl, congrArg (AV.int .i64) e, rfl, trivial⟩, trivial⟩⟩
      by_cases hji : i < (j : Int) + 1
      · exact hI j a b hji h2 h3
      · have : j = i.toNat - 1 := by omega
        subst this
        rw [he2] at h2
        rw [show i.toNat - 1 + 1 = i.toNat by omega, he1] at h3
        cases h2; cases h3
        omega
  · have h0 : (decide (i > 0)) = false := h0
    have g0 : ¬i > 0 := of_decide_eq_false h0
    exact ⟨eq2 (AV.bool true) (by 
      congr 1
      exact (upF_iff D).2 fun j a b h2 h3 => hI j a b (by omega) h2 h3) rfl, rfl, trivial⟩

theorem steady1_ret (a b : Int) (ha : Bd 1073741824 a) (hb : Bd 1073741824 b) : Ret Try.prog 93 [] [i64 a, i64 b] (i64 (b - a)) [] := by
  obtain ⟨_, _⟩ := ha
  obtain ⟨_, _⟩ := hb
  refine ret_of Try.func93 rfl rfl rfl ?_
  exact ⟨eq2 (i64 (IntKind.wrap .i64 (b - a))) (by rw [w64 _ (by omega) (by omega)]) rfl, rfl, trivial⟩
theorem isSortedFunc_ret (D : List Int) (hD : D.length ≤ 1000000) (hb : ∀ d ∈ D, Bd 1073741824 d) : Ret Try.prog 92 [] [isl D, .fn 93 []] (.bool (downF D)) [] := by
  refine ret_of Try.func92 rfl rfl rfl ?_
  refine ⟨Int, fun i => ⟨[(0, isl D), (1, .fn 93 []), (4, .bool false), (5, i64 i)], [], 0⟩, fun i => -1 ≤ i ∧ i < D.length ∧ ∀ (j : Nat) a b, i < (j : Int) + 1 → D[j]? = some a → D[j + 1]? = some b → b ≤ a, fun i => (i + 1).toNat, (D.length : Int) - 1,
      [], ⟨by omega, by omega, fun j a b h1 h2 h3 => by have := (List.getElem?_eq_some_iff.1 h3).1; omega⟩, ⟨rfl, rfl, rfl, ⟨rfl, rfl, rfl, rfl, rfl, rfl, (show AV.int .i64 _ = AV.int .i64 _ by congr 1; simp only [List.length_map]; exact w64 _ (by omega) (by omega)), rfl, trivial⟩, trivial⟩, ?_⟩
  intro i hI
  obtain ⟨hi0, hi1, hI⟩ : -1 ≤ i ∧ i < D.length ∧ ∀ (j : Nat) a b, i < (j : Int) + 1 → D[j]? = some a → D[j + 1]? = some b → b ≤ a := hI
  refine BM.split (fun h0 => ?_) (fun h0 => ?_)
  · have h0 : (decide (i > 0)) = true := h0
    have g0 : i > 0 := of_decide_eq_true h0
    refine BM.yes (show (true && decide (0 ≤ i) && decide (i < (↑(List.map (fun (n : Int) => i64 n) D).length : Int))) = true from by simp; omega) ?_
    obtain ⟨e1, he1⟩ : ∃ e, D[i.toNat]? = some e := ⟨_, List.getElem?_eq_getElem (show i.toNat < D.length from by omega)⟩
    refine WE.intro (show (List.map (fun (n : Int) => i64 n) D)[i.toNat]? = some (i64 e1) from by rw [List.getElem?_map, he1]; rfl) ?_
    refine BM.yes (show (true && decide (0 ≤ IntKind.i64.wrap (i - 1)) && decide (IntKind.i64.wrap (i - 1) < (↑(List.map (fun (n : Int) => i64 n) D).length : Int))) = true from by simp [IntKind.wrap_i64] at *; omega) ?_
    obtain ⟨e2, he2⟩ : ∃ e, D[(IntKind.i64.wrap (i - 1)).toNat]? = some e := ⟨_, List.getElem?_eq_getElem (show (IntKind.i64.wrap (i - 1)).toNat < D.length from by rw [w64 _ (by omega) (by omega)]; omega)⟩
    refine WE.intro (show (List.map (fun (n : Int) => i64 n) D)[(IntKind.i64.wrap (i - 1)).toNat]? = some (i64 e2) from by rw [List.getElem?_map, he2]; rfl) ?_
    refine RC.use (steady1_ret e1 e2 (hb _ (List.mem_of_getElem? he1)) (hb _ (List.mem_of_getElem? he2))) rfl ?_
    refine CL.yes (by kernel_rfl) ?_
    refine BM.split (fun h3 => ?_) (fun h3 => ?_)
    · have h3 : (decide (e2 - e1 < 0)) = true := h3
      have g3 : e2 - e1 < 0 := of_decide_eq_true h3
      exact ⟨eq2 (AV.bool false) (by 
        have e : (IntKind.i64.wrap (i - 1)).toNat = i.toNat - 1 := by rw [w64 _ (by omega) (by omega)]; omega
        rw [e] at he2
        have : ¬ downF D = true := fun h => by
          have := (downF_iff D).1 h (i.toNat - 1) e2 e1 he2 (by rw [show i.toNat - 1 + 1 = i.toNat by omega]; exact he1)
          omega
        congr 1
        simpa using this) rfl, rfl, trivial⟩
    · have h3 : (decide (e2 - e1 < 0)) = false := h3
      have g3 : ¬e2 - e1 < 0 := of_decide_eq_false h3
      have e : IntKind.i64.wrap (i - 1) = i - 1 := w64 _ (by omega) (by omega)
      rw [e, show (i - 1).toNat = i.toNat - 1 by omega] at he2
      refine ⟨i - 1, [], ⟨by omega, by omega, fun j a b h1 h2 h3 => ?_⟩, (show (i - 1 + 1).toNat < (i + 1).toNat by omega), ⟨rfl, rfl, rfl, ⟨rfl, rfl, rfl, rfl, rfl, rfl, congrArg (AV.int .i64) e, rfl, trivial⟩, trivial⟩⟩
      by_cases hji : i < (j : Int) + 1
      · exact hI j a b hji h2 h3
      · have : j = i.toNat - 1 := by omega
        subst this
        rw [he2] at h2
        rw [show i.toNat - 1 + 1 = i.toNat by omega, he1] at h3
        cases h2; cases h3
        omega
  · have h0 : (decide (i > 0)) = false := h0
    have g0 : ¬i > 0 := of_decide_eq_false h0
    exact ⟨eq2 (AV.bool true) (by 
      congr 1
      exact (downF_iff D).2 fun j a b h2 h3 => hI j a b (by omega) h2 h3) rfl, rfl, trivial⟩
def stF (D : List Int) : Bool := upF D || downF D
theorem steady_ret (D : List Int) (hD : D.length ≤ 1000000) (hb : ∀ d ∈ D, Bd 1073741824 d) : Ret Try.prog 56 [] [isl D] (.bool (stF D)) [] := by
  refine ret_of Try.func56 rfl rfl rfl ?_
  refine RC.use (isSorted_ret D hD) rfl ?_
  refine BM.split (fun h0 => ?_) (fun h0 => ?_)
  · have h0 : (upF D) = true := h0
    exact ⟨eq2 (AV.bool true) (by unfold stF; rw [h0, Bool.true_or]) rfl, rfl, trivial⟩
  · have h0 : (upF D) = false := h0
    refine RC.use (isSortedFunc_ret D hD hb) rfl ?_
    exact ⟨eq2 (AV.bool (downF D)) (by unfold stF; rw [h0, Bool.false_or]) rfl, rfl, trivial⟩
/-- A depth that may not be. -/
def badD (d : Int) : Bool := decide (d < 1) || decide (d > 1048576)
theorem right1_ret (d : Int) : Ret Try.prog 55 [] [i64 d] (.bool (badD d)) [] := by
  refine ret_of Try.func55 rfl rfl rfl ?_
  refine BM.split (fun h0 => ?_) (fun h0 => ?_)
  · have h0 : (decide (d < 1)) = true := h0
    have g0 : d < 1 := of_decide_eq_true h0
    exact ⟨eq2 (AV.bool true) (by unfold badD; rw [h0, Bool.true_or]) rfl, rfl, trivial⟩
  · have h0 : (decide (d < 1)) = false := h0
    have g0 : ¬d < 1 := of_decide_eq_false h0
    exact ⟨eq2 (AV.bool (decide (d > 1048576))) (by unfold badD; rw [h0, Bool.false_or]) rfl, rfl, trivial⟩
def idxD : List Int → Nat → Int
  | [], _ => -1
  | d :: D, j => if badD d then (j : Int) else idxD D (j + 1)
theorem idxD_ge (D : List Int) (j : Nat) : decide (idxD D j ≥ 0) = D.any badD := by
  induction D generalizing j with
  | nil => rfl
  | cons q L ih =>
    unfold idxD
    rw [List.any_cons]
    by_cases h : badD q = true
    · rw [if_pos h, h]; simp
    · rw [if_neg h, ih]
      simp [h]
theorem indexFuncI_ret (D : List Int) (hD : D.length ≤ 1000000) : Ret Try.prog 90 [] [isl D, .fn 55 []] (i64 (idxD D 0)) [] := by
  refine ret_of Try.func90 rfl rfl rfl ?_
  refine ⟨Nat, fun j => ⟨[(0, isl D), (1, .fn 55 []), (7, dn D.length), (8, dn j)], [], 0⟩, fun j => j ≤ D.length ∧ idxD D 0 = idxD (D.drop j) j, fun j => D.length - j, 0,
    [], ⟨Nat.zero_le _, rfl⟩, ⟨rfl, rfl, rfl, ⟨rfl, rfl, rfl, rfl, (show AV.int .i64 _ = AV.int .i64 _ by congr 1; simp), rfl, rfl, rfl, trivial⟩, trivial⟩, ?_⟩
  intro j hI
  obtain ⟨hj, hE⟩ : j ≤ D.length ∧ idxD D 0 = idxD (D.drop j) j := hI
  refine BM.split (fun h0 => ?_) (fun h0 => ?_)
  · have h0 : (decide ((↑j : Int) < (↑D.length : Int))) = true := h0
    have g0 : (↑j : Int) < (↑D.length : Int) := of_decide_eq_true h0
    refine BM.yes (show (true && decide (0 ≤ (↑j : Int)) && decide ((↑j : Int) < (↑(List.map (fun (n : Int) => i64 n) D).length : Int))) = true from by simp; omega) ?_
    obtain ⟨e1, he1⟩ : ∃ e, D[(↑j : Int).toNat]? = some e := ⟨_, List.getElem?_eq_getElem (show (↑j : Int).toNat < D.length from by omega)⟩
    refine WE.intro (show (List.map (fun (n : Int) => i64 n) D)[(↑j : Int).toNat]? = some (i64 e1) from by rw [List.getElem?_map, he1]; rfl) ?_
    refine RC.use (right1_ret e1) rfl ?_
    refine BM.split (fun h2 => ?_) (fun h2 => ?_)
    · have h2 : (badD e1) = true := h2
      exact ⟨eq2 (AV.int IntKind.i64 (↑j : Int)) (by 
        have hj2 : j < D.length := by omega
        rw [List.getElem?_eq_getElem (show (↑j : Int).toNat < D.length from hj2)] at he1
        simp only [Option.some.injEq, Int.toNat_natCast] at he1
        rw [hE, List.drop_eq_getElem_cons hj2, idxD, he1, h2, if_pos rfl]) rfl, rfl, trivial⟩
    · have h2 : (badD e1) = false := h2
      have hj2 : j < D.length := by omega
      rw [List.getElem?_eq_getElem (show (↑j : Int).toNat < D.length from hj2)] at he1
      simp only [Option.some.injEq, Int.toNat_natCast] at he1
      exact ⟨j + 1, [], ⟨hj2, by rw [hE, List.drop_eq_getElem_cons hj2, idxD, he1, h2, if_neg (by decide)]⟩, (show D.length - (j + 1) < D.length - j by omega), ⟨rfl, rfl, rfl, ⟨rfl, rfl, rfl, rfl, rfl, rfl, congrArg (AV.int .i64) (succ_wrap j (by omega)), rfl, trivial⟩, trivial⟩⟩
  · have h0 : (decide ((↑j : Int) < (↑D.length : Int))) = false := h0
    have g0 : ¬(↑j : Int) < (↑D.length : Int) := of_decide_eq_false h0
    exact ⟨eq2 (AV.int IntKind.i64 (-1)) (by rw [hE, List.drop_eq_nil_of_le (by omega)]; rfl) rfl, rfl, trivial⟩
theorem containsI_ret (D : List Int) (hD : D.length ≤ 1000000) : Ret Try.prog 54 [] [isl D, .fn 55 []] (.bool (D.any badD)) [] := by
  rw [← idxD_ge D 0]
  refine ret_of Try.func54 rfl rfl rfl ?_
  refine RC.use (indexFuncI_ret D hD) rfl ?_
  exact ⟨rfl, rfl, trivial⟩

end Go.Proofs.Ytllaijapijinoaa

set_option linter.all false
namespace Go.Proofs.Ytllaijapijinoaa
open Go.Cw

/-- No vertex is the same as the one ahead. -/
def neF : List Pt → Bool
  | a :: b :: r => !decide (a = b) && neF (b :: r)
  | _ => true
def inF (k : Int) (q : Pt) : Bool := nearF q.x k && nearF q.y k
def rightF (V : List Pt) (D : List Int) (k : Int) : Bool :=
  (decide (k ≥ 0) && decide (k ≤ 28)) && (!((V.length : Int) == 0) && (!((D.length : Int) != (V.length : Int) - 1) && (!D.any badD && ((V.all (inF k) && neF V) && (stF (V.map (·.x)) && stF (V.map (·.y)))))))
theorem neF_iff : ∀ (V : List Pt), neF V = true ↔ ∀ (j : Nat) a b, V[j]? = some a → V[j + 1]? = some b → a ≠ b
  | [] => by simp [neF]
  | [x] => by simp [neF]
  | x :: y :: r => by
    have ih := neF_iff (y :: r)
    rw [neF, Bool.and_eq_true, Bool.not_eq_true', decide_eq_false_iff_not, ih]
    constructor
    · rintro ⟨h1, h2⟩ j a b ha hb
      cases j with
      | zero => simp at ha hb; rw [← ha, ← hb]; exact h1
      | succ j => exact h2 j a b (by simpa using ha) (by simpa using hb)
    · intro h
      exact ⟨h 0 x y rfl rfl, fun j a b ha hb => h (j + 1) a b (by simpa using ha) (by simpa using hb)⟩
theorem near_bd {x k : Int} (h : nearF x k = true) : Bd 1073741824 x := by
  have hk := rungF_bd k
  have h1 := cen_bd h
  obtain ⟨a, b⟩ := h1
  unfold cenF at a b
  have p : (1 : Int) ≤ 2 ^ (min (rungF k).toNat (IntKind.bits .i64)) := by
    have := Int.pow_pos (n := 2) (m := min (rungF k).toNat (IntKind.bits .i64)) (by decide)
    omega
  generalize (2 : Int) ^ (min (rungF k).toNat (IntKind.bits .i64)) = c at *
  rcases Int.lt_or_le x 0 with w | w
  · have := Int.mul_le_mul_of_nonneg_left p (show 0 ≤ -x by omega)
    rw [Int.mul_one, Int.neg_mul] at this
    exact ⟨by omega, by omega⟩
  · have := Int.mul_le_mul_of_nonneg_left p w
    rw [Int.mul_one] at this
    exact ⟨by omega, by omega⟩
def rgS (V : List Pt) (D : List Int) (k : Int) (j : Nat) : St :=
  ⟨[(1, i64 k), (2, .ptr 0 0), (4, .bool false), (5, .osl 1), (6, .osl 2), (34, psl V), (35, dn V.length), (36, dn j)],
   [(0, .cells 34 [psl V, isl D]), (1, .row 3 none ((V.take j).map fun q => i64 q.x)), (2, .row 3 none ((V.take j).map fun q => i64 q.y))], 3⟩
theorem take_map (f : Pt → Int) {V : List Pt} {j : Nat} {q : Pt} (h : V[j]? = some q) : ((V.take j).map fun q => i64 (f q)) ++ [i64 (f q)] = (V.take (j + 1)).map fun q => i64 (f q) := by
  rw [List.take_add_one, h]; simp
theorem rg_next {V : List Pt} {k : Int} {j : Nat} {q : Pt} (hj : j < V.length) (hq : V[j]? = some q) (hin : inF k q = true) (hall : (V.take j).all (inF k) = true) (hne : neF (V.take j) = true) (h1 : (j : Int) > 0 → ∃ q1, V[j - 1]? = some q1 ∧ q1 ≠ q) :
    j + 1 ≤ V.length ∧ (V.take (j + 1)).all (inF k) = true ∧ neF (V.take (j + 1)) = true := by
  refine ⟨hj, ?_, (neF_iff _).2 fun i a b ha hb => ?_⟩
  · rw [List.take_add_one, hq, List.all_append, hall]
    simp [hin]
  · rw [List.getElem?_take] at ha hb
    split at hb
    · rename_i hi
      rw [if_pos (by omega)] at ha
      rcases Nat.lt_or_ge (i + 1) j with w | w
      · refine (neF_iff _).1 hne i a b ?_ ?_
        · rw [List.getElem?_take, if_pos (by omega)]; exact ha
        · rw [List.getElem?_take, if_pos w]; exact hb
      · have e : i + 1 = j := by omega
        obtain ⟨q1, h2, h3⟩ := h1 (by omega)
        rw [show j - 1 = i by omega, ha] at h2
        rw [e, hq] at hb
        cases h2; cases hb
        exact h3
    · cases hb
set_option maxRecDepth 100000 in
set_option maxHeartbeats 16000000 in
theorem right_loop {V : List Pt} {D : List Int} {k : Int} (hV : V.length ≤ 1000000) (hD : D.length ≤ 1000000) (h1 : (decide (k ≥ 0) && decide (k ≤ 28)) = true) (h2 : ((V.length : Int) == 0) = false) (h3 : ((D.length : Int) != (V.length : Int) - 1) = false) (h4 : D.any badD = false) :
    Ret Try.prog 22 [] [chA V D, i64 k] (.bool ((V.all (inF k) && neF V) && (stF (V.map (·.x)) && stF (V.map (·.y))))) [] := by
  have c2 : ((↑(List.map pxv V).length : Int) == 0) = false := by rw [List.length_map]; exact h2
  have c3 : ((↑(List.map (fun (n : Int) => i64 n) D).length : Int) != IntKind.i64.wrap ((↑(List.map pxv V).length : Int) - 1)) = false := by rw [List.length_map, List.length_map, w64 _ (by omega) (by omega)]; exact h3
  have k4 := containsI_ret D hD
  rw [h4] at k4
  refine ret_tree (.seq .fin (.seq .fin (.here (.seq .fin (.nil 5 3 none (.nil 6 3 none (.seq (.seq .fin (.block (.loop (.seq .fin (.seq .fin (.seq (.block (.seq .fin (.here (.seq .fin (.here .fin))))) .fin)))))) (.here .fin)))))))) Try.func22 rfl rfl rfl ?_
  refine RC.use (gridRight_of h1) rfl ?_
  refine BM.no c2 ?_
  refine BM.no c3 ?_
  refine RC.use k4 rfl ?_
  refine ⟨⟨[(1, i64 k), (2, .ptr 0 0), (4, .bool false)], [(0, .cells 34 [psl V, isl D])], 1⟩,
   [(0, 0)], ⟨rfl, rfl, rfl, ⟨rfl, rfl, rfl, rfl, rfl, rfl, trivial⟩, ⟨rfl, rfl, trivial⟩⟩, ?_⟩
  refine ⟨Nat, rgS V D k, fun j => j ≤ V.length ∧ (V.take j).all (inF k) = true ∧ neF (V.take j) = true, fun j => V.length - j, 0,
    [(0, 0), (1, 1), (2, 2)], ⟨Nat.zero_le _, rfl, rfl⟩, ⟨rfl, rfl, rfl, ⟨rfl, rfl, rfl, rfl, rfl, rfl, rfl, rfl, rfl, rfl, rfl, rfl, (show AV.int .i64 _ = AV.int .i64 _ by congr 1; simp), rfl, rfl, rfl, trivial⟩, ⟨rfl, rfl, rfl, rfl, rfl, rfl, trivial⟩⟩, ?_⟩
  intro j hI
  obtain ⟨hj, hall, hne⟩ : j ≤ V.length ∧ (V.take j).all (inF k) = true ∧ neF (V.take j) = true := hI
  refine BM.split (fun h0 => ?_) (fun h0 => ?_)
  · have h0 : (decide ((↑j : Int) < (↑V.length : Int))) = true := h0
    have g0 : (↑j : Int) < (↑V.length : Int) := of_decide_eq_true h0
    have hjl : j < V.length := by omega
    obtain ⟨q, hq⟩ : ∃ q, V[j]? = some q := ⟨_, List.getElem?_eq_getElem hjl⟩
    have hq' : V[(↑j : Int).toNat]? = some q := hq
    obtain ⟨q1, hq1⟩ : ∃ q1, V[(IntKind.i64.wrap ((↑j : Int) - 1)).toNat]? = some q1 := ⟨_, List.getElem?_eq_getElem (by rw [w64 _ (by omega) (by omega)]; omega)⟩
    refine BM.yes (show (true && decide (0 ≤ (↑j : Int)) && decide ((↑j : Int) < (↑(List.map pxv V).length : Int))) = true from by simp; omega) ?_
    refine WE.intro (show (List.map pxv V)[(↑j : Int).toNat]? = some (pxv q) from by rw [List.getElem?_map]; exact congrArg _ hq) ?_
    refine ⟨⟨[(1, AV.int IntKind.i64 k), (2, AV.ptr 0 0), (4, AV.bool false), (5, AV.osl 1), (6, AV.osl 2), (7, AV.int IntKind.i64 (↑j : Int)), (8, AV.ptr 3 0), (34, AV.sl (some 2) (List.map pxv V)), (35, AV.int IntKind.i64 (↑V.length : Int)), (36, AV.int IntKind.i64 (↑j : Int))],
     [(0, ABlk.cells 34 [AV.sl (some 2) (List.map pxv V), AV.sl none (List.map (fun (n : Int) => i64 n) D)]), (1, ABlk.row 3 none (List.map (fun (q : Pt) => i64 q.x) (List.take j V))), (2, ABlk.row 3 none (List.map (fun (q : Pt) => i64 q.y) (List.take j V))), (3, ABlk.cells 38 [AV.int IntKind.i64 q.x, AV.int IntKind.i64 q.y])], 4⟩,
     [(0, 0), (1, 1), (2, 2), (3, 3)], ⟨rfl, rfl, rfl, ⟨rfl, rfl, rfl, rfl, rfl, rfl, rfl, rfl, rfl, rfl, rfl, rfl, rfl, rfl, rfl, rfl, rfl, rfl, rfl, rfl, trivial⟩, ⟨rfl, rfl, rfl, rfl, rfl, rfl, rfl, rfl, trivial⟩⟩, ?_⟩
    refine RC.use (gridIn_ret q.x q.y k) rfl ?_
    refine BM.split (fun h5 => ?_) (fun h5 => ?_)
    · have h5 : (!(nearF q.x k && nearF q.y k)) = true := h5
      refine CL.yes (by kernel_rfl) ?_
      exact ⟨eq2 (AV.bool false) (by 
        have : inF k q = false := by unfold inF; cases h : (nearF q.x k && nearF q.y k) <;> rw [h] at h5 <;> first | rfl | cases h5
        have hq2 : ¬ V.all (inF k) = true := fun h => by rw [List.all_eq_true.1 h q (List.mem_of_getElem? hq)] at this; cases this
        rw [show V.all (inF k) = false by simpa using hq2, Bool.false_and, Bool.false_and]) rfl, rfl, trivial⟩
    · have h5 : (!(nearF q.x k && nearF q.y k)) = false := h5
      refine BM.split (fun h6 => ?_) (fun h6 => ?_)
      · have h6 : (decide ((↑j : Int) > 0)) = true := h6
        have g6 : (↑j : Int) > 0 := of_decide_eq_true h6
        refine BM.yes (show (true && decide (0 ≤ IntKind.i64.wrap ((↑j : Int) - 1)) && decide (IntKind.i64.wrap ((↑j : Int) - 1) < (↑(List.map pxv V).length : Int))) = true from by simp [IntKind.wrap_i64] at *; omega) ?_
        refine WE.intro (show (List.map pxv V)[(IntKind.i64.wrap ((↑j : Int) - 1)).toNat]? = some (pxv q1) from by rw [List.getElem?_map]; exact congrArg _ hq1) ?_
        refine CL.yes (by kernel_rfl) ?_
        refine BM.split (fun h7 => ?_) (fun h7 => ?_)
        · have h7 : (q.x == q1.x && (q.y == q1.y && true)) = true := h7
          exact ⟨eq2 (AV.bool false) (by 
            have e : (IntKind.i64.wrap ((j : Int) - 1)).toNat = j - 1 := by rw [w64 _ (by omega) (by omega)]; omega
            rw [e] at hq1
            have hqq : q1 = q := by cases q; cases q1; simp at h7; simp [h7]
            have hn2 : ¬ neF V = true := fun h => (neF_iff V).1 h (j - 1) q1 q hq1 (by rw [show j - 1 + 1 = j by omega]; exact hq) hqq
            rw [show neF V = false by simpa using hn2, Bool.and_false, Bool.false_and]) rfl, rfl, trivial⟩
        · have h7 : (q.x == q1.x && (q.y == q1.y && true)) = false := h7
          refine ⟨⟨[(1, AV.int IntKind.i64 k), (2, AV.ptr 0 0), (4, AV.bool false), (5, AV.osl 1), (6, AV.osl 2), (8, AV.ptr 3 0), (34, AV.sl (some 2) (List.map pxv V)), (35, AV.int IntKind.i64 (↑V.length : Int)), (36, AV.int IntKind.i64 (↑j : Int))],
           [(0, ABlk.cells 34 [AV.sl (some 2) (List.map pxv V), AV.sl none (List.map (fun (n : Int) => i64 n) D)]), (1, ABlk.row 3 none (List.map (fun (q : Pt) => i64 q.x) (List.take j V))), (2, ABlk.row 3 none (List.map (fun (q : Pt) => i64 q.y) (List.take j V))), (3, ABlk.cells 38 [AV.int IntKind.i64 q.x, AV.int IntKind.i64 q.y])], 4⟩,
           [(0, 0), (1, 1), (2, 2), (3, 3)], ⟨rfl, rfl, rfl, ⟨rfl, rfl, rfl, rfl, rfl, rfl, rfl, rfl, rfl, rfl, rfl, rfl, rfl, rfl, rfl, rfl, rfl, rfl, trivial⟩, ⟨rfl, rfl, rfl, rfl, rfl, rfl, rfl, rfl, trivial⟩⟩, ?_⟩
          refine ⟨(show ((List.map (fun (q : Pt) => i64 q.x) (List.take j V)).length + 1) * 8 ≤ 140737488355328 from (by simp [IntKind.wrap_i64] at *; omega)), (show (List.map (fun (q : Pt) => i64 q.x) (List.take j V)).length + 1 ≤ 140737488355328 from (by simp [IntKind.wrap_i64] at *; omega)), (.inr rfl), ?_⟩
          refine ⟨(show ((List.map (fun (q : Pt) => i64 q.y) (List.take j V)).length + 1) * 8 ≤ 140737488355328 from (by simp [IntKind.wrap_i64] at *; omega)), (show (List.map (fun (q : Pt) => i64 q.y) (List.take j V)).length + 1 ≤ 140737488355328 from (by simp [IntKind.wrap_i64] at *; omega)), (.inr rfl), ?_⟩
          refine CL.yes (by kernel_rfl) ?_
          have e : (IntKind.i64.wrap ((j : Int) - 1)).toNat = j - 1 := by rw [w64 _ (by omega) (by omega)]; omega
          rw [e] at hq1
          have hqq : q1 ≠ q := fun h => by subst h; simp at h7
          exact ⟨j + 1, [(0, 0), (1, 5), (2, 7)], rg_next hjl hq (by unfold inF; cases h : (nearF q.x k && nearF q.y k) <;> rw [h] at h5 <;> first | rfl | cases h5) hall hne (fun _ => ⟨q1, hq1, hqq⟩), (show V.length - (j + 1) < V.length - j by omega), ⟨rfl, rfl, rfl, ⟨rfl, rfl, rfl, rfl, rfl, rfl, rfl, rfl, rfl, rfl, rfl, rfl, rfl, rfl, congrArg (AV.int .i64) (succ_wrap j (by omega)), rfl, trivial⟩, ⟨rfl, rfl, congrArg (ABlk.row 3 none) (take_map (·.x) hq), rfl, congrArg (ABlk.row 3 none) (take_map (·.y) hq), rfl, trivial⟩⟩⟩
      · have h6 : (decide ((↑j : Int) > 0)) = false := h6
        have g6 : ¬(↑j : Int) > 0 := of_decide_eq_false h6
        refine CL.yes (by kernel_rfl) ?_
        refine ⟨⟨[(1, AV.int IntKind.i64 k), (2, AV.ptr 0 0), (4, AV.bool false), (5, AV.osl 1), (6, AV.osl 2), (8, AV.ptr 3 0), (34, AV.sl (some 2) (List.map pxv V)), (35, AV.int IntKind.i64 (↑V.length : Int)), (36, AV.int IntKind.i64 (↑j : Int))],
         [(0, ABlk.cells 34 [AV.sl (some 2) (List.map pxv V), AV.sl none (List.map (fun (n : Int) => i64 n) D)]), (1, ABlk.row 3 none (List.map (fun (q : Pt) => i64 q.x) (List.take j V))), (2, ABlk.row 3 none (List.map (fun (q : Pt) => i64 q.y) (List.take j V))), (3, ABlk.cells 38 [AV.int IntKind.i64 q.x, AV.int IntKind.i64 q.y])], 4⟩,
         [(0, 0), (1, 1), (2, 2), (3, 3)], ⟨rfl, rfl, rfl, ⟨rfl, rfl, rfl, rfl, rfl, rfl, rfl, rfl, rfl, rfl, rfl, rfl, rfl, rfl, rfl, rfl, rfl, rfl, trivial⟩, ⟨rfl, rfl, rfl, rfl, rfl, rfl, rfl, rfl, trivial⟩⟩, ?_⟩
        refine ⟨(show ((List.map (fun (q : Pt) => i64 q.x) (List.take j V)).length + 1) * 8 ≤ 140737488355328 from (by simp [IntKind.wrap_i64] at *; omega)), (show (List.map (fun (q : Pt) => i64 q.x) (List.take j V)).length + 1 ≤ 140737488355328 from (by simp [IntKind.wrap_i64] at *; omega)), (.inr rfl), ?_⟩
        refine ⟨(show ((List.map (fun (q : Pt) => i64 q.y) (List.take j V)).length + 1) * 8 ≤ 140737488355328 from (by simp [IntKind.wrap_i64] at *; omega)), (show (List.map (fun (q : Pt) => i64 q.y) (List.take j V)).length + 1 ≤ 140737488355328 from (by simp [IntKind.wrap_i64] at *; omega)), (.inr rfl), ?_⟩
        refine CL.yes (by kernel_rfl) ?_
        exact ⟨j + 1, [(0, 0), (1, 5), (2, 7)], rg_next hjl hq (by unfold inF; cases h : (nearF q.x k && nearF q.y k) <;> rw [h] at h5 <;> first | rfl | cases h5) hall hne (fun h => absurd h (by omega)), (show V.length - (j + 1) < V.length - j by omega), ⟨rfl, rfl, rfl, ⟨rfl, rfl, rfl, rfl, rfl, rfl, rfl, rfl, rfl, rfl, rfl, rfl, rfl, rfl, congrArg (AV.int .i64) (succ_wrap j (by omega)), rfl, trivial⟩, ⟨rfl, rfl, congrArg (ABlk.row 3 none) (take_map (·.x) hq), rfl, congrArg (ABlk.row 3 none) (take_map (·.y) hq), rfl, trivial⟩⟩⟩
  · have h0 : (decide ((↑j : Int) < (↑V.length : Int))) = false := h0
    have hjl : j = V.length := by have := of_decide_eq_false h0; omega
    subst hjl
    rw [List.take_length] at hall hne
    have hbx : ∀ d ∈ V.map (·.x), Bd 1073741824 d := by
      intro d hd
      obtain ⟨q, hq, rfl⟩ := List.mem_map.1 hd
      have := List.all_eq_true.1 hall q hq
      unfold inF at this
      rw [Bool.and_eq_true] at this
      exact near_bd this.1
    have hby : ∀ d ∈ V.map (·.y), Bd 1073741824 d := by
      intro d hd
      obtain ⟨q, hq, rfl⟩ := List.mem_map.1 hd
      have := List.all_eq_true.1 hall q hq
      unfold inF at this
      rw [Bool.and_eq_true] at this
      exact near_bd this.2
    have sx := steady_ret (V.map (·.x)) (by simpa using hV) hbx
    have sy := steady_ret (V.map (·.y)) (by simpa using hV) hby
    refine ⟨⟨[(4, .bool false), (5, .osl 1), (6, .osl 2)], [(0, .cells 34 [psl V, isl D]), (1, .row 3 none ((V.map (·.x)).map fun n => i64 n)), (2, .row 3 none ((V.map (·.y)).map fun n => i64 n))], 3⟩,
     [(0, 0), (1, 1), (2, 2)], ⟨rfl, rfl, rfl, ⟨rfl, rfl, rfl, rfl, rfl, rfl, trivial⟩, ⟨rfl, rfl, (show ABlk.row 3 none _ = ABlk.row 3 none _ by rw [List.take_length]; simp), rfl, (show ABlk.row 3 none _ = ABlk.row 3 none _ by rw [List.take_length]; simp), rfl, trivial⟩⟩, ?_⟩
    refine RC.use (steady_ret (List.map (fun (x : Pt) => x.x) V) (by simp; omega) hbx) rfl ?_
    refine BM.split (fun h5 => ?_) (fun h5 => ?_)
    · have h5 : (stF (List.map (fun (x : Pt) => x.x) V)) = true := h5
      refine RC.use (steady_ret (List.map (fun (x : Pt) => x.y) V) (by simp; omega) hby) rfl ?_
      exact ⟨eq2 (AV.bool (stF (List.map (fun (x : Pt) => x.y) V))) (by rw [hall, hne, h5]; rfl) rfl, rfl, trivial⟩
    · have h5 : (stF (List.map (fun (x : Pt) => x.x) V)) = false := h5
      exact ⟨eq2 (AV.bool false) (by rw [h5, Bool.false_and, Bool.and_false]) rfl, rfl, trivial⟩

theorem chainRight_ret (V : List Pt) (D : List Int) (k : Int) (hV : V.length ≤ 1000000) (hD : D.length ≤ 1000000) : Ret Try.prog 22 [] [chA V D, i64 k] (.bool (rightF V D k)) [] := by
  cases h1 : (decide (k ≥ 0) && decide (k ≤ 28))
  · rw [show rightF V D k = false by unfold rightF; rw [h1]; rfl]
    refine ret_of Try.func22 rfl rfl rfl ?_
    refine RC.use (gridRight_of h1) rfl ?_
    exact ⟨rfl, rfl, trivial⟩
  have c2 : ∀ t, ((V.length : Int) == 0) = t → ((↑(List.map pxv V).length : Int) == 0) = t := fun t h => by rw [List.length_map]; exact h
  have c3 : ∀ t, ((D.length : Int) != (V.length : Int) - 1) = t → ((↑(List.map (fun (n : Int) => i64 n) D).length : Int) != IntKind.i64.wrap ((↑(List.map pxv V).length : Int) - 1)) = t := fun t h => by rw [List.length_map, List.length_map, w64 _ (by omega) (by omega)]; exact h
  cases h2 : ((V.length : Int) == 0)
  rotate_left
  · rw [show rightF V D k = false by unfold rightF; rw [h1, h2]; rfl]
    refine ret_of Try.func22 rfl rfl rfl ?_
    refine RC.use (gridRight_of h1) rfl ?_
    refine BM.yes (c2 _ h2) ?_
    exact ⟨rfl, rfl, trivial⟩
  cases h3 : ((D.length : Int) != (V.length : Int) - 1)
  rotate_left
  · rw [show rightF V D k = false by unfold rightF; rw [h1, h2, h3]; rfl]
    refine ret_of Try.func22 rfl rfl rfl ?_
    refine RC.use (gridRight_of h1) rfl ?_
    refine BM.no (c2 _ h2) ?_
    refine BM.yes (c3 _ h3) ?_
    exact ⟨rfl, rfl, trivial⟩
  cases h4 : D.any badD
  rotate_left
  · rw [show rightF V D k = false by unfold rightF; rw [h1, h2, h3, h4]; rfl]
    have k4 := containsI_ret D hD
    rw [h4] at k4
    refine ret_of Try.func22 rfl rfl rfl ?_
    refine RC.use (gridRight_of h1) rfl ?_
    refine BM.no (c2 _ h2) ?_
    refine BM.no (c3 _ h3) ?_
    refine RC.use k4 rfl ?_
    exact ⟨rfl, rfl, trivial⟩
  rw [show rightF V D k = ((V.all (inF k) && neF V) && (stF (V.map (·.x)) && stF (V.map (·.y)))) by unfold rightF; rw [h1, h2, h3, h4]; rfl]
  exact right_loop hV hD h1 h2 h3 h4

end Go.Proofs.Ytllaijapijinoaa

set_option linter.all false
namespace Go.Proofs.Ytllaijapijinoaa
open Go.Cw

theorem law10New_ret (V : List Pt) (D : List Int) (hV : V.length ≤ 1000000) (hD : D.length ≤ 1000000) : Ret Try.prog 13 [] [chA V D] (chA V D) [] := by
  refine ret_tree (.seq .fin (.seq .fin (.here (.nilc 3 0 38 (some 2) .fin)))) Try.func13 rfl rfl rfl ?_
  refine ⟨(show (0 + (List.map (fun (n : Int) => i64 n) D).length) * 8 ≤ 140737488355328 from (by simp; omega)), (show 0 + (List.map (fun (n : Int) => i64 n) D).length ≤ 140737488355328 from (by simp; omega)), (.inr rfl), ?_⟩
  refine ⟨⟨[(1, .ptr 0 0), (2, .ptr 1 0), (3, .ptr 3 0)],
   [(0, .cells 25 [psl V, isl D]), (1, .cells 34 [.nilsl, .nilsl]), (2, .row 3 none (D.map fun n => i64 n)), (3, .cells 34 [.nilsl, .osl 2])], 4⟩,
   [(0, 0), (1, 1), (2, 3), (3, 4)], ⟨rfl, rfl, rfl, ⟨rfl, rfl, rfl, rfl, rfl, rfl, trivial⟩, ⟨rfl, rfl, rfl, rfl, rfl, rfl, rfl, rfl, trivial⟩⟩, ?_⟩
  refine ⟨Nat, fun j => ⟨[(2, .ptr 0 0), (3, .ptr 2 0), (12, psl V), (13, dn V.length), (14, dn j)],
     [(0, .cells 34 [.nilsl, .nilsl]), (1, .row 3 none (D.map fun n => i64 n)), (2, .cells 34 [.osl 3, .osl 1]), (3, .row 38 (some 2) ((V.take j).map pxv))], 4⟩, fun j => j ≤ V.length, fun j => V.length - j, 0,
     [(0, 1), (1, 2), (2, 3), (3, 4)], Nat.zero_le _, ⟨rfl, rfl, rfl, ⟨rfl, rfl, rfl, rfl, rfl, rfl, (show AV.int .i64 _ = AV.int .i64 _ by congr 1; simp), rfl, rfl, rfl, trivial⟩, ⟨rfl, rfl, rfl, rfl, rfl, rfl, rfl, rfl, trivial⟩⟩, ?_⟩
  intro j hj
  have hj : j ≤ V.length := hj
  refine BM.split (fun h0 => ?_) (fun h0 => ?_)
  · have h0 : (decide ((↑j : Int) < (↑V.length : Int))) = true := h0
    have g0 : (↑j : Int) < (↑V.length : Int) := of_decide_eq_true h0
    refine BM.yes (show (true && decide (0 ≤ (↑j : Int)) && decide ((↑j : Int) < (↑(List.map pxv V).length : Int))) = true from by simp; omega) ?_
    obtain ⟨e1, he1⟩ : ∃ e, V[(↑j : Int).toNat]? = some e := ⟨_, List.getElem?_eq_getElem (show (↑j : Int).toNat < V.length from by omega)⟩
    refine WE.intro (show (List.map pxv V)[(↑j : Int).toNat]? = some (pxv e1) from by rw [List.getElem?_map, he1]; rfl) ?_
    refine ⟨(show ((List.map pxv (List.take j V)).length + 1) * 16 ≤ 140737488355328 from (by simp [IntKind.wrap_i64] at *; omega)), (show (List.map pxv (List.take j V)).length + 1 ≤ 140737488355328 from (by simp [IntKind.wrap_i64] at *; omega)), (.inr rfl), ?_⟩
    exact ⟨j + 1, [(0, 0), (1, 1), (2, 2), (3, 6)], (show j + 1 ≤ V.length by omega), (show V.length - (j + 1) < V.length - j by omega), ⟨rfl, rfl, rfl, ⟨rfl, rfl, rfl, rfl, rfl, rfl, rfl, rfl, congrArg (AV.int .i64) (succ_wrap j (by omega)), rfl, trivial⟩, ⟨rfl, rfl, rfl, rfl, rfl, rfl, congrArg (ABlk.row 38 (some 2)) (show List.map pxv (List.take j V) ++ [pxv e1] = _ by rw [List.take_add_one, show V[j]? = some e1 from he1]; simp), rfl, trivial⟩⟩⟩
  · have h0 : (decide ((↑j : Int) < (↑V.length : Int))) = false := h0
    have g0 : ¬(↑j : Int) < (↑V.length : Int) := of_decide_eq_false h0
    exact ⟨eq2 (AV.ag [AV.sl (some 2) (List.map pxv (List.take j V)), AV.sl none (List.map (fun (n : Int) => i64 n) D)]) (by rw [List.take_of_length_le (by omega)]) rfl, rfl, trivial⟩
theorem rightNil_ret : Ret Try.prog 22 [] [.ag [.nilsl, .nilsl], i64 0] (.bool false) [] := by
  have h1 : Ret Try.prog 40 [] [i64 0] (.bool true) [] := gridRight_ret 0
  refine ret_of Try.func22 rfl rfl rfl ?_
  refine RC.use (h1) rfl ?_
  exact ⟨rfl, rfl, trivial⟩
set_option maxRecDepth 1000000 in
theorem alive10_ret : Ret Try.prog 12 [] [] (.bool true) [] := by
  have n1 : Ret Try.prog 17 [] [pt 0 0, pt 4 0] (chA [⟨0, 0⟩, ⟨4, 0⟩] [1]) [] := chainNew_ret ⟨0, 0⟩ ⟨4, 0⟩
  have n2 : Ret Try.prog 17 [] [pt 1 0, pt 1 0] (chA [⟨1, 0⟩] []) [] := chainNew_ret ⟨1, 0⟩ ⟨1, 0⟩
  have s1 : Ret Try.prog 21 [] [chA [⟨0, 0⟩, ⟨4, 0⟩] [1], i64 0, psl [⟨2, 0⟩]] (.tup [chA [⟨0, 0⟩, ⟨2, 0⟩, ⟨4, 0⟩] [2, 2], .bool true]) [] := split_ok (l := 0) (d := 1) (by decide) (by decide) (by decide) rfl (by decide) (by decide) (by decide)
  have s2 : Ret Try.prog 21 [] [chA [⟨0, 0⟩, ⟨4, 0⟩] [1], i64 1, psl [⟨2, 0⟩]] (.tup [chA [] [], .bool false]) [] := split_no (by decide) (by decide) (by decide) (by decide)
  have d1 : Ret Try.prog 23 [] [chA [⟨0, 0⟩, ⟨2, 0⟩, ⟨4, 0⟩] [2, 2]] (i64 2) [] := depth_ret _ _ (by decide) (by decide)
  have r1 : Ret Try.prog 22 [] [chA [⟨0, 0⟩, ⟨2, 0⟩, ⟨4, 0⟩] [2, 2], i64 0] (.bool true) [] := chainRight_ret _ _ 0 (by decide) (by decide)
  have c1 : Ret Try.prog 37 [] [chA [⟨0, 0⟩, ⟨2, 0⟩, ⟨4, 0⟩] [2, 2]] (chA [⟨0, 0⟩, ⟨2, 0⟩, ⟨4, 0⟩] [2, 2]) [] := clone_ret _ _ (by decide) (by decide)
  have e1 : Ret Try.prog 36 [] [chA [⟨0, 0⟩, ⟨2, 0⟩, ⟨4, 0⟩] [2, 2], chA [⟨0, 0⟩, ⟨2, 0⟩, ⟨4, 0⟩] [2, 2]] (.bool true) [] := same_ret _ _ _ _ (by decide) (by decide) (by decide) (by decide)
  have k1 : Ret Try.prog 14 [] [chA [⟨0, 0⟩, ⟨2, 0⟩, ⟨4, 0⟩] [2, 2], pt 0 0, pt 4 0, i64 0, i64 0] (.bool true) [] := by
    have := close_ret [⟨0, 0⟩, ⟨2, 0⟩, ⟨4, 0⟩] [i64 2, i64 2] ⟨0, 0⟩ ⟨4, 0⟩ 0 0 (by decide)
    rw [show closeF [⟨0, 0⟩, ⟨2, 0⟩, ⟨4, 0⟩] ⟨0, 0⟩ ⟨4, 0⟩ 0 0 = true by kernel_rfl] at this
    exact this
  have k2 : Ret Try.prog 14 [] [chA [⟨0, 0⟩, ⟨2, 0⟩, ⟨4, 0⟩] [2, 2], pt 0 0, pt 4 1, i64 0, i64 1] (.bool false) [] := by
    have := close_ret [⟨0, 0⟩, ⟨2, 0⟩, ⟨4, 0⟩] [i64 2, i64 2] ⟨0, 0⟩ ⟨4, 1⟩ 0 1 (by decide)
    rw [show closeF [⟨0, 0⟩, ⟨2, 0⟩, ⟨4, 0⟩] ⟨0, 0⟩ ⟨4, 1⟩ 0 1 = false by kernel_rfl] at this
    exact this
  refine ret_of Try.func12 rfl rfl rfl ?_
  refine RC.use (n1) rfl ?_
  refine RC.use (s1) rfl ?_
  refine RC.use (s2) rfl ?_
  refine RC.use (n2) rfl ?_
  refine RC.use (d1) rfl ?_
  refine RC.use (r1) rfl ?_
  refine RC.use (rightNil_ret) rfl ?_
  refine RC.use (c1) rfl ?_
  refine RC.use (e1) rfl ?_
  refine RC.use (k1) rfl ?_
  refine RC.use (k2) rfl ?_
  conv => whnf
  exact ⟨rfl, rfl, trivial⟩

end Go.Proofs.Ytllaijapijinoaa

set_option linter.all false
namespace Go.Proofs.Ytllaijapijinoaa
open Go.Cw

theorem manyG_ret (V : List Pt) (D : List Int) (hV : V.length ≤ 1152921504606846976) (hD : D.length ≤ 1152921504606846976) : Ret Try.prog 11 [] [chA V D] (i64 (V.length + D.length)) [] := by
  refine ret_of Try.func11 rfl rfl rfl ?_
  exact ⟨eq2 (AV.int IntKind.i64 (IntKind.i64.wrap ((↑(List.map pxv V).length : Int) + (↑(List.map (fun (n : Int) => i64 n) D).length : Int)))) (by simp only [List.length_map]; rw [w64 _ (by omega) (by omega)]) rfl, rfl, trivial⟩
set_option maxRecDepth 100000 in
set_option maxHeartbeats 16000000 in
theorem chainClose_ret (V : List Pt) (D : List Int) (a b : Pt) (k far : Int) (hV : V.length ≤ 1152921504606846976) (hD : D.length ≤ 1152921504606846976) (hI : ∀ q ∈ V, InI q.x ∧ InI q.y) :
    Ret Try.prog 3 [] [chA V D, .ag [i64 a.x, i64 a.y, i64 b.x, i64 b.y], .ag [i64 k, i64 far]] (.bool true) [] := by
  by_cases hbig : (V.length : Int) + D.length > 60
  · have hb : decide ((V.length : Int) + D.length > 60) = true := decide_eq_true hbig
    refine ret_of Try.func3 rfl rfl rfl ?_
    refine RC.use (manyG_ret V D hV hD) rfl ?_
    refine BM.yes hb ?_
    refine RC.use (alive10_ret) rfl ?_
    exact ⟨rfl, rfl, trivial⟩
  have hb : decide ((V.length : Int) + D.length > 60) = false := decide_eq_false hbig
  have hV' : V.length ≤ 1000000 := by omega
  have hD' : D.length ≤ 1000000 := by omega
  have hcp : Ret Try.prog 14 [] [chA V D, pt a.x a.y, pt b.x b.y, i64 k, i64 far] (.bool (closeF V a b k far)) [] := close_ret V (D.map fun n => i64 n) a b k far hV'
  have hcr : Ret Try.prog 15 [] [chA V D, pt a.x a.y, pt b.x b.y, i64 k, i64 far] (.bool (closeF V a b k far)) [] := by
    rw [closeF_eq a b k far V hI]
    exact closeRF_ret V (D.map fun n => i64 n) a b k far hV' hI
  have hne : (closeF V a b k far != closeF V a b k far) = false := by simp
  cases hc : closeF V a b k far
  · rw [hc] at hcp hcr
    refine ret_of Try.func3 rfl rfl rfl ?_
    refine RC.use (many_ret V D hV' hD') rfl ?_
    refine BM.no hb ?_
    refine RC.use (law10New_ret V D hV' hD') rfl ?_
    refine CL.yes (by kernel_rfl) ?_
    refine RC.use (hcp) rfl ?_
    refine RC.use (hcr) rfl ?_
    refine RC.use (alive10_ret) rfl ?_
    exact ⟨rfl, rfl, trivial⟩
  rw [hc] at hcp hcr
  refine ret_tree (.seq .fin (.seq .fin (.here (.seq .fin (.here (.seq .fin (.seq .fin (.seq .fin (.seq .fin (.here (.nilc 2 0 38 (some 2) (.empc 2 1 none (.seq .fin (.here .fin)))))))))))))) Try.func3 rfl rfl rfl ?_
  have hpos : 0 < V.length := by
    have := ((closeF_iff a b k far V).1 hc).1.2.2.2.2.1
    exact List.length_pos_iff.2 this
  have hfar : 0 ≤ far ∧ far ≤ 268435456 := ((closeF_iff a b k far V).1 hc).1.2.2.2.1
  have hbk : Ret Try.prog 14 [] [chA V.reverse [], pt b.x b.y, pt a.x a.y, i64 k, i64 far] (.bool true) [] := by
    have := close_ret V.reverse [] b a k far (by simpa using hV')
    rw [closeF_back a b k far hc] at this
    exact this
  refine RC.use (many_ret V D hV' hD') rfl ?_
  refine BM.no hb ?_
  refine ⟨⟨[(3, .ptr 0 0), (4, .ptr 1 0), (5, .ptr 2 0), (6, .bool false)],
   [(0, .cells 25 [psl V, isl D]), (1, .cells 28 [i64 a.x, i64 a.y, i64 b.x, i64 b.y]), (2, .cells 29 [i64 k, i64 far])], 3⟩,
   [(0, 0), (1, 1), (2, 2)], ⟨rfl, rfl, rfl, ⟨rfl, rfl, rfl, rfl, rfl, rfl, rfl, rfl, trivial⟩, ⟨rfl, rfl, rfl, rfl, rfl, rfl, trivial⟩⟩, ?_⟩
  refine RC.use (law10New_ret V D hV' hD') rfl ?_
  refine CL.yes (by kernel_rfl) ?_
  refine ⟨⟨[(3, .ptr 0 0), (4, .ptr 1 0), (6, .bool false), (7, .ptr 2 0), (8, i64 k), (9, i64 far)],
   [(0, .cells 25 [psl V, isl D]), (1, .cells 28 [i64 a.x, i64 a.y, i64 b.x, i64 b.y]), (2, .cells 34 [psl V, isl D])], 3⟩,
   [(0, 0), (1, 1), (2, 3)], ⟨rfl, rfl, rfl, ⟨rfl, rfl, rfl, rfl, rfl, rfl, rfl, rfl, rfl, rfl, rfl, rfl, trivial⟩, ⟨rfl, rfl, rfl, rfl, rfl, rfl, trivial⟩⟩, ?_⟩
  refine RC.use hcp rfl ?_
  refine RC.use hcr rfl ?_
  refine ⟨⟨[(4, .ptr 0 0), (6, .bool false), (7, .ptr 1 0), (8, i64 k), (9, i64 far), (11, .ptr 2 0)],
   [(0, .cells 28 [i64 a.x, i64 a.y, i64 b.x, i64 b.y]), (1, .cells 34 [psl V, isl D]), (2, .cells 34 [.nilsl, .nilsl])], 3⟩,
   [(0, 1), (1, 2), (2, 3)], ⟨rfl, rfl, rfl, ⟨rfl, rfl, rfl, rfl, rfl, rfl, rfl, rfl, rfl, rfl, rfl, rfl, trivial⟩, ⟨rfl, rfl, rfl, rfl, rfl, rfl, trivial⟩⟩, ?_⟩
  refine ⟨Nat, fun j => ⟨[(4, .ptr 0 0), (6, .bool false), (7, .ptr 1 0), (8, i64 k), (9, i64 far), (11, .ptr 2 0), (46, dn V.length), (47, dn j)],
   [(0, .cells 28 [i64 a.x, i64 a.y, i64 b.x, i64 b.y]), (1, .cells 34 [psl V, isl D]), (2, .cells 34 [.osl 3, .sl none []]), (3, .row 38 (some 2) ((V.reverse.take j).map pxv))], 4⟩, fun j => j ≤ V.length, fun j => V.length - j, 0,
   [(0, 0), (1, 1), (2, 2), (3, 3)], Nat.zero_le _, ⟨rfl, rfl, rfl, ⟨rfl, rfl, rfl, rfl, rfl, rfl, rfl, rfl, rfl, rfl, rfl, rfl, (show AV.int .i64 _ = AV.int .i64 _ by congr 1; simp), rfl, rfl, rfl, trivial⟩, ⟨rfl, rfl, rfl, rfl, rfl, rfl, rfl, rfl, trivial⟩⟩, ?_⟩
  intro j hj
  have hj : j ≤ V.length := hj
  refine BM.split (fun h0 => ?_) (fun h0 => ?_)
  · have h0 : (decide ((↑j : Int) < (↑V.length : Int))) = true := h0
    have g0 : (↑j : Int) < (↑V.length : Int) := of_decide_eq_true h0
    have hw : IntKind.i64.wrap (IntKind.i64.wrap ((↑(List.map pxv V).length : Int) - 1) - (j : Int)) = ((V.length - 1 - j : Nat) : Int) := by
      rw [List.length_map, w64 ((V.length : Int) - 1) (by omega) (by omega), w64 _ (by omega) (by omega)]; omega
    obtain ⟨q, hq⟩ : ∃ q, V[V.length - 1 - j]? = some q := ⟨_, List.getElem?_eq_getElem (by omega)⟩
    have hq' : (List.map pxv V)[(IntKind.i64.wrap (IntKind.i64.wrap ((↑(List.map pxv V).length : Int) - 1) - (j : Int))).toNat]? = some (pxv q) := by
      rw [hw, Int.toNat_natCast]; exact pxv_get hq
    have hr : V.reverse[j]? = some q := by rw [List.getElem?_reverse (by omega)]; exact hq
    have hbd : (true && decide (0 ≤ IntKind.i64.wrap (IntKind.i64.wrap ((↑(List.map pxv V).length : Int) - 1) - (j : Int))) && decide (IntKind.i64.wrap (IntKind.i64.wrap ((↑(List.map pxv V).length : Int) - 1) - (j : Int)) < (↑(List.map pxv V).length : Int))) = true := by
      rw [hw]; simp; omega
    refine BM.yes hbd ?_
    refine WE.intro hq' ?_
    refine ⟨(show ((List.map pxv (List.take j V.reverse)).length + 1) * 16 ≤ 140737488355328 from (by simp only [List.length_map, List.length_take, List.length_reverse]; omega)), (show (List.map pxv (List.take j V.reverse)).length + 1 ≤ 140737488355328 from (by simp only [List.length_map, List.length_take, List.length_reverse]; omega)), (.inr rfl), ?_⟩
    refine CL.yes (by kernel_rfl) ?_
    exact ⟨j + 1, [(0, 0), (1, 1), (2, 2), (3, 5)], (show j + 1 ≤ V.length by omega), (show V.length - (j + 1) < V.length - j by omega), ⟨rfl, rfl, rfl, ⟨rfl, rfl, rfl, rfl, rfl, rfl, rfl, rfl, rfl, rfl, rfl, rfl, rfl, rfl, congrArg (AV.int .i64) (succ_wrap j (by omega)), rfl, trivial⟩, ⟨rfl, rfl, rfl, rfl, rfl, rfl, congrArg (ABlk.row 38 (some 2)) (show List.map pxv (List.take j V.reverse) ++ [pxv q] = _ by rw [List.take_add_one, hr]; simp), rfl, trivial⟩⟩⟩
  · have h0 : (decide ((↑j : Int) < (↑V.length : Int))) = false := h0
    have hjl : j = V.length := by have := of_decide_eq_false h0; omega
    subst hjl
    refine ⟨⟨[(4, .ptr 0 0), (6, .bool false), (7, .ptr 1 0), (8, i64 k), (9, i64 far), (11, .ptr 2 0)],
     [(0, .cells 28 [i64 a.x, i64 a.y, i64 b.x, i64 b.y]), (1, .cells 34 [psl V, isl D]), (2, .cells 34 [.osl 3, .sl none []]), (3, .row 38 (some 2) (V.reverse.map pxv))], 4⟩,
     [(0, 0), (1, 1), (2, 2), (3, 3)], ⟨rfl, rfl, rfl, ⟨rfl, rfl, rfl, rfl, rfl, rfl, rfl, rfl, rfl, rfl, rfl, rfl, trivial⟩, ⟨rfl, rfl, rfl, rfl, rfl, rfl, (show ABlk.row _ _ _ = ABlk.row _ _ _ by rw [List.take_of_length_le (by simp)]), rfl, trivial⟩⟩, ?_⟩
    by_cases hf : far = 268435456
    · have hf' : (far == 268435456) = true := by simp [hf]
      refine RC.use (alive10_ret) rfl ?_
      refine BM.yes hf' ?_
      refine RC.use (hbk) rfl ?_
      exact ⟨rfl, rfl, trivial⟩
    · have hf' : (far == 268435456) = false := by simp [hf]
      have hm : Ret Try.prog 14 [] [chA V D, pt a.x a.y, pt b.x b.y, i64 k, i64 (IntKind.wrap .i64 (far + 1))] (.bool true) [] := by
        rw [w64 _ (by omega) (by omega)]
        have := close_ret V (D.map fun n => i64 n) a b k (far + 1) hV'
        rw [closeF_more a b k far hc hf] at this
        exact this
      refine RC.use (alive10_ret) rfl ?_
      refine BM.no hf' ?_
      refine RC.use hm rfl ?_
      refine RC.use (hbk) rfl ?_
      exact ⟨rfl, rfl, trivial⟩

end Go.Proofs.Ytllaijapijinoaa

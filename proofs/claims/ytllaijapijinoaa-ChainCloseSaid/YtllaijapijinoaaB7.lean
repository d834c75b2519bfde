/-
  Parts of one proof, in their order: The contracts of the grid's small functions. Conditions: those in each statement. · The contracts of the chain's parts of a segment. Conditions: bounds, those in each statement. · The contracts of centers, and of the part of a segment that is near one. Conditions: bounds, those in each statement. · The contracts of the search for a pixel that is too far. Conditions: those in each statement. · The contract of chain.Close. Conditions: those in each statement. · The walk through chain.Close. Conditions: those in each statement. · The contract of chain.Close, all arms. Conditions: so many vertices at most. · The contracts of the document's grid. Conditions: those in each statement. · The contracts of the document's sizes and small fractions. Conditions: those in each statement. · The contract of the document's part of a segment, kept from one number to another one. Conditions: bounds, those in each statement. · What the document's Close computes; the state of its walk. Conditions: those in each statement. · The walk through the document's Close. Conditions: those in each statement. · The contract of the document's Close, all arms. Conditions: so many vertices at most, numbers of the machine's. · When a chain goes along a segment, in plain words: the program's way and the document's tell the same. Conditions: those in each statement. · The program's and the document's words for a chain that goes along a segment come to the same; they stand for places in order. Conditions: those in each statement.
-/
import Derived.Test.YtllaijapijinoaaB4
import Derived.Test.YtllaijapijinoaaB5
import Derived.Test.YtllaijapijinoaaB6
set_option linter.all false
namespace Go.Proofs.Ytllaijapijinoaa
open Go.Cw
set_option linter.unusedVariables false

def rungF (k : Int) : Int := mnE (mxE k 0) 28
theorem rungF_bd (k : Int) : 0 ≤ rungF k ∧ rungF k ≤ 28 := by
  unfold rungF mnE mxE
  repeat' split
  all_goals omega
theorem gridRight_ret (k : Int) : Ret Try.prog 40 [] [i64 k] (.bool (decide (k ≥ 0) && decide (k ≤ 28))) [] := by
  refine ret_of Try.func40 rfl rfl rfl ?_
  refine BM.split (fun h => ?_) (fun h => ?_)
  · have h : decide (k ≥ 0) = true := h
    exact ⟨eq2 (.bool (decide (k ≤ 28))) (by rw [h, Bool.true_and]) rfl, rfl, trivial⟩
  · have h : decide (k ≥ 0) = false := h
    exact ⟨eq2 (.bool false) (by rw [h, Bool.false_and]) rfl, rfl, trivial⟩
set_option maxHeartbeats 4000000 in
theorem rung_ret (k : Int) : Ret Try.prog 53 [] [i64 k] (i64 (rungF k)) [] := by
  refine ret_of Try.func53 rfl rfl rfl ?_
  exact ⟨rfl, rfl, trivial⟩
/-- How far a center's numbers may be, on a rung. -/
def farF (k : Int) : Int := (134217728 : Int).fdiv (2 ^ (min (rungF k).toNat (IntKind.bits .i64)))
def nearF (n k : Int) : Bool := decide (n ≥ IntKind.wrap .i64 (0 - farF k)) && decide (n ≤ farF k)
theorem gridIn1_ret (n k : Int) : Ret Try.prog 82 [.cells 3 [i64 k]] [i64 n, .ptr 0 0] (.bool (nearF n k)) [.cells 3 [i64 k]] := by
  have hk := rungF_bd k
  refine ret_of Try.func82 rfl rfl rfl ?_
  refine RC.use (rung_ret k) rfl ?_
  refine BM.split (fun h => ?_) (fun _ => ?_)
  · have h : decide (rungF k < 0) = true := h
    rw [decide_eq_true_eq] at h
    omega
  refine BM.split (fun h1 => ?_) (fun h1 => ?_)
  · have h1 : decide (n ≥ IntKind.wrap .i64 (0 - farF k)) = true := h1
    refine RC.use (rung_ret k) rfl ?_
    refine BM.split (fun h => ?_) (fun _ => ?_)
    · have h : decide (rungF k < 0) = true := h
      rw [decide_eq_true_eq] at h
      omega
    exact ⟨eq2 (.bool (decide (n ≤ farF k))) (by unfold nearF; rw [h1, Bool.true_and]) rfl, rfl, rfl, trivial⟩
  · have h1 : decide (n ≥ IntKind.wrap .i64 (0 - farF k)) = false := h1
    exact ⟨eq2 (.bool false) (by unfold nearF; rw [h1, Bool.false_and]) rfl, rfl, rfl, trivial⟩
theorem gridIn_ret (x y k : Int) : Ret Try.prog 39 [] [pt x y, i64 k] (.bool (nearF x k && nearF y k)) [] := by
  refine ret_of Try.func39 rfl rfl rfl ?_
  refine ⟨[1], .bool (nearF x k), [.cells 3 [i64 k]], rfl, ?_, rfl, ?_⟩
  · exact gridIn1_ret x k
  refine BM.split (fun h1 => ?_) (fun h1 => ?_)
  · have h1 : nearF x k = true := h1
    refine ⟨[1], .bool (nearF y k), [.cells 3 [i64 k]], rfl, ?_, rfl, ?_⟩
    · exact gridIn1_ret y k
    exact ⟨eq2 (.bool (nearF y k)) (by rw [h1, Bool.true_and]) rfl, rfl, trivial⟩
  · have h1 : nearF x k = false := h1
    exact ⟨eq2 (.bool false) (by rw [h1, Bool.false_and]) rfl, rfl, trivial⟩

end Go.Proofs.Ytllaijapijinoaa

namespace Go.Proofs.Ytllaijapijinoaa
open Go.Cw
set_option linter.unusedVariables false

/-- Is one place ahead of another one? -/
def lessF (n d m e : Int) : Bool := decide (n * e < m * d)
theorem bd_wrap {k x : Int} (h : Bd k x) (hk : k ≤ 9223372036854775807) : IntKind.wrap .i64 x = x := by
  obtain ⟨a, b⟩ := h
  rw [IntKind.wrap_i64]; omega
theorem less_ret (n d m e : Int) (hn : Bd 1073741824 n) (hd : Bd 1073741824 d) (hm : Bd 1073741824 m) (he : Bd 1073741824 e) :
    Ret Try.prog 43 [] [pt n d, pt m e] (.bool (lessF n d m e)) [] := by
  refine ret_of Try.func43 rfl rfl rfl ?_
  exact ⟨eq2 (.bool (decide (IntKind.wrap .i64 (n * e) < IntKind.wrap .i64 (m * d)))) (by
    rw [bd_wrap (hn.mul he) (by decide), bd_wrap (hm.mul hd) (by decide)]; rfl) rfl, rfl, trivial⟩
/-- A part of a segment: from one place to another one; or none. -/
structure PV where
  fn : Int
  fd : Int
  tn : Int
  td : Int
  no : Bool
abbrev PV.cs (p : PV) : List AV := [i64 p.fn, i64 p.fd, i64 p.tn, i64 p.td, .bool p.no]
structure PV.In (p : PV) : Prop where
  a : Bd 1073741824 p.fn
  b : Bd 1073741824 p.fd
  c : Bd 1073741824 p.tn
  d : Bd 1073741824 p.td
/-- Places whose number is not below a limit. -/
def narrowF (p : PV) (away by' : Int) : PV :=
  if by' = 0 then { p with no := p.no || decide (away > 0) }
  else if by' > 0 ∧ lessF p.fn p.fd away by' = true then { p with fn := away, fd := by' }
  else if by' < 0 ∧ lessF (-away) (-by') p.tn p.td = true then { p with tn := -away, td := -by' }
  else p
theorem narrowF_in {p : PV} (h : p.In) {away by' : Int} (ha : Bd 1073741824 away) (hb : Bd 1073741824 by') : (narrowF p away by').In := by
  unfold narrowF
  split
  · exact ⟨h.a, h.b, h.c, h.d⟩
  split
  · exact ⟨ha, hb, h.c, h.d⟩
  split
  · exact ⟨h.a, h.b, ha.neg, hb.neg⟩
  · exact h
abbrev pvB (p : PV) : ABlk := .cells 88 p.cs
set_option maxHeartbeats 8000000 in
theorem narrow_ret (p : PV) (hp : p.In) (from' by' limit : Int) (hb : Bd 1073741824 by') (ha : Bd 1073741824 (limit - from')) :
    Ret Try.prog 84 [pvB p] [.ptr 0 0, i64 from', i64 by', i64 limit] (.tup []) [pvB (narrowF p (limit - from') by')] := by
  have ew : IntKind.wrap .i64 (limit - from') = limit - from' := bd_wrap ha (by decide)
  have en : IntKind.wrap .i64 (0 - IntKind.wrap .i64 (limit - from')) = -(limit - from') := by
    obtain ⟨_, _⟩ := ha
    rw [ew, IntKind.wrap_i64]; omega
  have eb : IntKind.wrap .i64 (0 - by') = -by' := by
    obtain ⟨_, _⟩ := hb
    rw [IntKind.wrap_i64]; omega
  have l1 := less_ret p.fn p.fd (limit - from') by' hp.a hp.b ha hb
  have l2 := less_ret (-(limit - from')) (-by') p.tn p.td ha.neg hb.neg hp.c hp.d
  have l1 : Ret Try.prog 43 [] [pt p.fn p.fd, pt (IntKind.wrap .i64 (limit - from')) by'] (.bool (lessF p.fn p.fd (limit - from') by')) [] := by rw [ew]; exact l1
  have l2 : Ret Try.prog 43 [] [pt (IntKind.wrap .i64 (0 - IntKind.wrap .i64 (limit - from'))) (IntKind.wrap .i64 (0 - by')), pt p.tn p.td] (.bool (lessF (-(limit - from')) (-by') p.tn p.td)) [] := by rw [en, eb]; exact l2
  refine ret_of Try.func84 rfl rfl rfl ?_
  refine BM.split (fun h0 => ?_) (fun h0 => ?_)
  · have h0 : (by' == 0) = true := h0
    have z : by' = 0 := by simpa using h0
    refine BM.split (fun h1 => ?_) (fun h1 => ?_)
    · have h1 : p.no = true := h1
      exact ⟨rfl, rfl, (show ABlk.cells 88 [i64 p.fn, i64 p.fd, i64 p.tn, i64 p.td, .bool true] = _ by unfold narrowF; rw [if_pos z, h1, Bool.true_or]), trivial⟩
    · have h1 : p.no = false := h1
      exact ⟨rfl, rfl, (show ABlk.cells 88 [i64 p.fn, i64 p.fd, i64 p.tn, i64 p.td, .bool (decide (IntKind.wrap .i64 (limit - from') > 0))] = _ by unfold narrowF; rw [if_pos z, h1, Bool.false_or, ew]), trivial⟩
  · have h0 : (by' == 0) = false := h0
    have z : ¬ by' = 0 := by simpa using h0
    refine BM.split (fun h1 => ?_) (fun h1 => ?_)
    · have h1 : decide (by' > 0) = true := h1
      have y : by' > 0 := by simpa using h1
      refine RC.use l1 rfl ?_
      refine BM.split (fun h2 => ?_) (fun h2 => ?_)
      · have h2 : lessF p.fn p.fd (limit - from') by' = true := h2
        exact ⟨rfl, rfl, (show ABlk.cells 88 [i64 (IntKind.wrap .i64 (limit - from')), i64 by', i64 p.tn, i64 p.td, .bool p.no] = _ by unfold narrowF; rw [if_neg z, if_pos ⟨y, h2⟩, ew]), trivial⟩
      · have h2 : lessF p.fn p.fd (limit - from') by' = false := h2
        refine BM.split (fun h3 => ?_) (fun h3 => ?_)
        · have h3 : decide (by' < 0) = true := h3
          rw [decide_eq_true_eq] at h3
          omega
        · exact ⟨rfl, rfl, (show pvB p = _ by unfold narrowF; rw [if_neg z, if_neg (by rw [h2]; simp), if_neg (by omega)]), trivial⟩
    · have h1 : decide (by' > 0) = false := h1
      have y : ¬ by' > 0 := by simpa using h1
      refine BM.split (fun h3 => ?_) (fun h3 => ?_)
      · have h3 : decide (by' < 0) = true := h3
        have w : by' < 0 := by simpa using h3
        refine RC.use l2 rfl ?_
        refine BM.split (fun h2 => ?_) (fun h2 => ?_)
        · have h2 : lessF (-(limit - from')) (-by') p.tn p.td = true := h2
          exact ⟨rfl, rfl, (show ABlk.cells 88 [i64 p.fn, i64 p.fd, i64 (IntKind.wrap .i64 (0 - IntKind.wrap .i64 (limit - from'))), i64 (IntKind.wrap .i64 (0 - by')), .bool p.no] = _ by unfold narrowF; rw [if_neg z, if_neg (by omega), if_pos ⟨w, h2⟩, en, eb]), trivial⟩
        · have h2 : lessF (-(limit - from')) (-by') p.tn p.td = false := h2
          exact ⟨rfl, rfl, (show pvB p = _ by unfold narrowF; rw [if_neg z, if_neg (by omega), if_neg (by rw [h2]; simp)]), trivial⟩
      · have h3 : decide (by' < 0) = false := h3
        rw [decide_eq_false_iff_not] at h3
        omega

end Go.Proofs.Ytllaijapijinoaa

namespace Go.Proofs.Ytllaijapijinoaa
open Go.Cw
set_option linter.unusedVariables false

def cenF (x k : Int) : Int := x * 2 ^ (min (rungF k).toNat (IntKind.bits .i64))
theorem cen_bd {x k : Int} (h : nearF x k = true) : Bd 134217728 (cenF x k) := by
  have hk := rungF_bd k
  unfold nearF farF at h
  unfold cenF
  have e : min (rungF k).toNat (IntKind.bits .i64) = (rungF k).toNat := by show min (rungF k).toNat 64 = _; omega
  rw [e] at h ⊢
  have : (rungF k).toNat ≤ 28 := by omega
  generalize (rungF k).toNat = r at *
  have cases : r = 0 ∨ r = 1 ∨ r = 2 ∨ r = 3 ∨ r = 4 ∨ r = 5 ∨ r = 6 ∨ r = 7 ∨ r = 8 ∨ r = 9 ∨ r = 10 ∨ r = 11 ∨ r = 12 ∨ r = 13 ∨ r = 14 ∨ r = 15 ∨ r = 16 ∨ r = 17 ∨ r = 18 ∨ r = 19 ∨ r = 20 ∨ r = 21 ∨ r = 22 ∨ r = 23 ∨ r = 24 ∨ r = 25 ∨ r = 26 ∨ r = 27 ∨ r = 28 := by omega
  rcases cases with rfl | rfl | rfl | rfl | rfl | rfl | rfl | rfl | rfl | rfl | rfl | rfl | rfl | rfl | rfl | rfl | rfl | rfl | rfl | rfl | rfl | rfl | rfl | rfl | rfl | rfl | rfl | rfl | rfl <;>
    (rw [Bool.and_eq_true, decide_eq_true_eq, decide_eq_true_eq, Int.fdiv_eq_ediv_of_nonneg _ (by decide), IntKind.wrap_i64] at h
     constructor <;> omega)
set_option maxHeartbeats 4000000 in
theorem center_ret (x y k : Int) (hx : nearF x k = true) (hy : nearF y k = true) : Ret Try.prog 20 [] [pt x y, i64 k] (pt (cenF x k) (cenF y k)) [] := by
  have hk := rungF_bd k
  have hin := gridIn_ret x y k
  rw [hx, hy] at hin
  have ex : IntKind.wrap .i64 (x * 2 ^ (min (rungF k).toNat (IntKind.bits .i64))) = cenF x k := bd_wrap (cen_bd hx) (by decide)
  have ey : IntKind.wrap .i64 (y * 2 ^ (min (rungF k).toNat (IntKind.bits .i64))) = cenF y k := bd_wrap (cen_bd hy) (by decide)
  refine ret_of Try.func20 rfl rfl rfl ?_
  refine RC.use hin rfl ?_
  refine RC.use (rung_ret k) rfl ?_
  refine BM.split (fun h => ?_) (fun _ => ?_)
  · have h : decide (rungF k < 0) = true := h
    rw [decide_eq_true_eq] at h
    omega
  refine RC.use (rung_ret k) rfl ?_
  refine BM.split (fun h => ?_) (fun _ => ?_)
  · have h : decide (rungF k < 0) = true := h
    rw [decide_eq_true_eq] at h
    omega
  refine CL.yes (by kernel_rfl) ?_
  exact ⟨eq2 (pt (IntKind.wrap .i64 (x * 2 ^ (min (rungF k).toNat (IntKind.bits .i64)))) (IntKind.wrap .i64 (y * 2 ^ (min (rungF k).toNat (IntKind.bits .i64))))) (by rw [ex, ey]) rfl, rfl, trivial⟩

/-! ### near -/
def pv0 : PV := ⟨0, 1, 1, 1, false⟩
theorem pv0_in : pv0.In := ⟨⟨by decide, by decide⟩, ⟨by decide, by decide⟩, ⟨by decide, by decide⟩, ⟨by decide, by decide⟩⟩
def near1 (a b : Pt) (cx cy far : Int) : PV := narrowF pv0 (2 * cx - far - 2 * a.x) (2 * (b.x - a.x))
def near2 (a b : Pt) (cx cy far : Int) : PV := narrowF (near1 a b cx cy far) (2 * cy - far - 2 * a.y) (2 * (b.y - a.y))
def near3 (a b : Pt) (cx cy far : Int) : PV := narrowF (near2 a b cx cy far) (-2 * cx - far - -2 * a.x) (-(2 * (b.x - a.x)))
def near4 (a b : Pt) (cx cy far : Int) : PV := narrowF (near3 a b cx cy far) (-2 * cy - far - -2 * a.y) (-(2 * (b.y - a.y)))
def nearPV (a b : Pt) (cx cy far : Int) : PV := { near4 a b cx cy far with no := (near4 a b cx cy far).no || lessF (near4 a b cx cy far).tn (near4 a b cx cy far).td (near4 a b cx cy far).fn (near4 a b cx cy far).fd }
theorem narrow_of {p : PV} (hp : p.In) {f b l f' b' l' aw : Int} (ef : f' = f) (eb : b' = b) (el : l' = l) (ea : l - f = aw) (hb : Bd 1073741824 b) (ha : Bd 1073741824 aw) :
    Ret Try.prog 84 [pvB p] [.ptr 0 0, i64 f', i64 b', i64 l'] (.tup []) [pvB (narrowF p aw b)] := by
  subst ef; subst eb; subst el; subst ea
  exact narrow_ret p hp f' b' l' hb ha
def nearS (a b : Pt) (cx cy far : Int) (p : PV) : St :=
  ⟨[(3, i64 far), (4, .ptr 0 0), (5, .ptr 1 0), (6, .ptr 2 0), (8, .ptr 3 0), (9, .ptr 4 0), (10, i64 (2 * (b.x - a.x))), (11, i64 (2 * (b.y - a.y)))],
   [(0, .cells 27 [i64 a.x, i64 a.y]), (1, .cells 27 [i64 b.x, i64 b.y]), (2, .cells 27 [i64 cx, i64 cy]), (3, .cells 88 [i64 0, i64 0, i64 0, i64 0, .bool false]), (4, pvB p)], 5⟩
set_option maxRecDepth 100000 in
set_option maxHeartbeats 16000000 in
theorem near_ret {a b : Pt} (ra : rt a = true) (rb : rt b = true) (cx cy far : Int) (hx : Bd 134217728 cx) (hy : Bd 134217728 cy) (f0 : 0 ≤ far) (f1 : far ≤ 268435456) :
    Ret Try.prog 42 [] [pt a.x a.y, pt b.x b.y, pt cx cy, i64 far] (.ag (nearPV a b cx cy far).cs) [] := by
  have ka := (rt_iff a).1 ra
  have kb := (rt_iff b).1 rb
  obtain ⟨x1, x2⟩ := hx
  obtain ⟨y1, y2⟩ := hy
  have w : ∀ x : Int, -9223372036854775808 ≤ x → x ≤ 9223372036854775807 → IntKind.wrap .i64 x = x := fun x h1 h2 => by rw [IntKind.wrap_i64]; omega
  have near1in : (near1 a b cx cy far).In := narrowF_in pv0_in (away := 2 * cx - far - 2 * a.x) (by' := 2 * (b.x - a.x)) ⟨by omega, by omega⟩ ⟨by omega, by omega⟩
  have near2in : (near2 a b cx cy far).In := narrowF_in near1in (away := 2 * cy - far - 2 * a.y) (by' := 2 * (b.y - a.y)) ⟨by omega, by omega⟩ ⟨by omega, by omega⟩
  have near3in : (near3 a b cx cy far).In := narrowF_in near2in (away := -2 * cx - far - -2 * a.x) (by' := -(2 * (b.x - a.x))) ⟨by omega, by omega⟩ ⟨by omega, by omega⟩
  have near4in : (near4 a b cx cy far).In := narrowF_in near3in (away := -2 * cy - far - -2 * a.y) (by' := -(2 * (b.y - a.y))) ⟨by omega, by omega⟩ ⟨by omega, by omega⟩
  have l4 := less_ret _ _ _ _ near4in.c near4in.d near4in.a near4in.b
  have hN : nearPV a b cx cy far = { near4 a b cx cy far with no := (near4 a b cx cy far).no || lessF (near4 a b cx cy far).tn (near4 a b cx cy far).td (near4 a b cx cy far).fn (near4 a b cx cy far).fd } := rfl
  refine ret_cut [3, 1, 1, 1, 1] Try.func42 rfl rfl rfl ?_
  refine CL.yes (by kernel_rfl) ?_
  refine ⟨nearS a b cx cy far pv0, [(0, 0), (1, 1), (2, 2), (3, 3), (4, 4)], ⟨rfl, rfl, rfl, ⟨rfl, rfl, rfl, rfl, rfl, rfl, rfl, rfl, rfl, rfl, rfl, rfl, congrArg (AV.int .i64) (show IntKind.wrap .i64 (2 * IntKind.wrap .i64 (b.x - a.x)) = 2 * (b.x - a.x) by rw [w (b.x - a.x) (by omega) (by omega), w _ (by omega) (by omega)]), rfl, congrArg (AV.int .i64) (show IntKind.wrap .i64 (2 * IntKind.wrap .i64 (b.y - a.y)) = 2 * (b.y - a.y) by rw [w (b.y - a.y) (by omega) (by omega), w _ (by omega) (by omega)]), rfl, trivial⟩, ⟨rfl, rfl, rfl, rfl, rfl, rfl, rfl, rfl, rfl, rfl, trivial⟩⟩, ?_⟩
  refine ⟨[4], .tup [], [pvB (near1 a b cx cy far)], rfl, ?_, rfl, ?_⟩
  · exact narrow_of (p := pv0) pv0_in (f := 2 * a.x) (b := 2 * (b.x - a.x)) (l := 2 * cx - far) (aw := 2 * cx - far - 2 * a.x) (by rw [w _ (by omega) (by omega)]) rfl (by rw [w (2 * cx) (by omega) (by omega), w _ (by omega) (by omega)]) rfl ⟨by omega, by omega⟩ ⟨by omega, by omega⟩
  refine ⟨nearS a b cx cy far (near1 a b cx cy far), [(0, 0), (1, 1), (2, 2), (3, 3), (4, 4)], ⟨rfl, rfl, rfl, ⟨rfl, rfl, rfl, rfl, rfl, rfl, rfl, rfl, rfl, rfl, rfl, rfl, rfl, rfl, rfl, rfl, trivial⟩, ⟨rfl, rfl, rfl, rfl, rfl, rfl, rfl, rfl, rfl, rfl, trivial⟩⟩, ?_⟩
  refine ⟨[4], .tup [], [pvB (near2 a b cx cy far)], rfl, ?_, rfl, ?_⟩
  · exact narrow_of (p := near1 a b cx cy far) near1in (f := 2 * a.y) (b := 2 * (b.y - a.y)) (l := 2 * cy - far) (aw := 2 * cy - far - 2 * a.y) (by rw [w _ (by omega) (by omega)]) rfl (by rw [w (2 * cy) (by omega) (by omega), w _ (by omega) (by omega)]) rfl ⟨by omega, by omega⟩ ⟨by omega, by omega⟩
  refine ⟨nearS a b cx cy far (near2 a b cx cy far), [(0, 0), (1, 1), (2, 2), (3, 3), (4, 4)], ⟨rfl, rfl, rfl, ⟨rfl, rfl, rfl, rfl, rfl, rfl, rfl, rfl, rfl, rfl, rfl, rfl, rfl, rfl, rfl, rfl, trivial⟩, ⟨rfl, rfl, rfl, rfl, rfl, rfl, rfl, rfl, rfl, rfl, trivial⟩⟩, ?_⟩
  refine ⟨[4], .tup [], [pvB (near3 a b cx cy far)], rfl, ?_, rfl, ?_⟩
  · exact narrow_of (p := near2 a b cx cy far) near2in (f := -2 * a.x) (b := -(2 * (b.x - a.x))) (l := -2 * cx - far) (aw := -2 * cx - far - -2 * a.x) (by rw [w _ (by omega) (by omega)]) (by rw [w _ (by omega) (by omega)]; omega) (by rw [w (-2 * cx) (by omega) (by omega), w _ (by omega) (by omega)]) rfl ⟨by omega, by omega⟩ ⟨by omega, by omega⟩
  refine ⟨nearS a b cx cy far (near3 a b cx cy far), [(0, 0), (1, 1), (2, 2), (3, 3), (4, 4)], ⟨rfl, rfl, rfl, ⟨rfl, rfl, rfl, rfl, rfl, rfl, rfl, rfl, rfl, rfl, rfl, rfl, rfl, rfl, rfl, rfl, trivial⟩, ⟨rfl, rfl, rfl, rfl, rfl, rfl, rfl, rfl, rfl, rfl, trivial⟩⟩, ?_⟩
  refine ⟨[4], .tup [], [pvB (near4 a b cx cy far)], rfl, ?_, rfl, ?_⟩
  · exact narrow_of (p := near3 a b cx cy far) near3in (f := -2 * a.y) (b := -(2 * (b.y - a.y))) (l := -2 * cy - far) (aw := -2 * cy - far - -2 * a.y) (by rw [w _ (by omega) (by omega)]) (by rw [w _ (by omega) (by omega)]; omega) (by rw [w (-2 * cy) (by omega) (by omega), w _ (by omega) (by omega)]) rfl ⟨by omega, by omega⟩ ⟨by omega, by omega⟩
  refine ⟨nearS a b cx cy far (near4 a b cx cy far), [(0, 0), (1, 1), (2, 2), (3, 3), (4, 4)], ⟨rfl, rfl, rfl, ⟨rfl, rfl, rfl, rfl, rfl, rfl, rfl, rfl, rfl, rfl, rfl, rfl, rfl, rfl, rfl, rfl, trivial⟩, ⟨rfl, rfl, rfl, rfl, rfl, rfl, rfl, rfl, rfl, rfl, trivial⟩⟩, ?_⟩
  refine BM.split (fun h => ?_) (fun h => ?_)
  · have h : (near4 a b cx cy far).no = true := h
    exact ⟨eq2 (.ag [i64 (near4 a b cx cy far).fn, i64 (near4 a b cx cy far).fd, i64 (near4 a b cx cy far).tn, i64 (near4 a b cx cy far).td, .bool true]) (by rw [hN]; show AV.ag [_, _, _, _, .bool (_ || _)] = _; rw [h, Bool.true_or]) rfl, rfl, trivial⟩
  · have h : (near4 a b cx cy far).no = false := h
    refine RC.use l4 rfl ?_
    exact ⟨eq2 (.ag [i64 (near4 a b cx cy far).fn, i64 (near4 a b cx cy far).fd, i64 (near4 a b cx cy far).tn, i64 (near4 a b cx cy far).td, .bool (lessF (near4 a b cx cy far).tn (near4 a b cx cy far).td (near4 a b cx cy far).fn (near4 a b cx cy far).fd)]) (by rw [hN]; show AV.ag [_, _, _, _, .bool (_ || _)] = _; rw [h, Bool.false_or]) rfl, rfl, trivial⟩

end Go.Proofs.Ytllaijapijinoaa

namespace Go.Proofs.Ytllaijapijinoaa
open Go.Cw
set_option linter.unusedVariables false

abbrev pxv (p : Pt) : AV := .ag [.int .i64 p.x, .int .i64 p.y]
/-- A pixel whose center is too far. -/
def badF (k : Int) (q : Pt) : Bool := !(nearF q.x k && nearF q.y k)
theorem close1_ret (q : Pt) (k : Int) : Ret Try.prog 38 [.cells 3 [i64 k]] [pt q.x q.y, .ptr 0 0] (.bool (badF k q)) [.cells 3 [i64 k]] := by
  refine ret_of Try.func38 rfl rfl rfl ?_
  refine RC.use (gridIn_ret _ _ _) rfl ?_
  exact ⟨rfl, rfl, rfl, trivial⟩
def idxS (L : List Pt) (k : Int) (j : Nat) : St :=
  ⟨[(0, .sl (some 2) (L.map pxv)), (1, .fn 38 [.ptr 0 0]), (7, .int .i64 ((L.map pxv).length : Nat)), (8, .int .i64 (j : Nat))], [(0, .cells 3 [i64 k])], 1⟩
/-- Where the first one is. -/
def idxF (k : Int) : List Pt → Nat → Int
  | [], _ => -1
  | q :: L, j => if badF k q then (j : Int) else idxF k L (j + 1)
theorem idxF_ge (k : Int) (L : List Pt) (j : Nat) : decide (idxF k L j ≥ 0) = L.any (badF k) := by
  induction L generalizing j with
  | nil => rfl
  | cons q L ih =>
    unfold idxF
    rw [List.any_cons]
    by_cases h : badF k q = true
    · rw [if_pos h, h]; simp
    · rw [if_neg h, ih]
      simp [h]
theorem pxv_get {L : List Pt} {j : Nat} {e : Pt} (h : L[j]? = some e) : (L.map pxv)[j]? = some (pxv e) := by
  rw [List.getElem?_map, h]; rfl
theorem succ_wrap (k : Nat) (hk : k ≤ 1000001) : IntKind.wrap .i64 ((k : Int) + 1) = ((k + 1 : Nat) : Int) := by rw [IntKind.wrap_i64]; omega
set_option maxRecDepth 100000 in
set_option maxHeartbeats 8000000 in
theorem indexFunc_ret (L : List Pt) (k : Int) (hL : L.length ≤ 1000000) :
    Ret Try.prog 83 [.cells 3 [i64 k]] [.sl (some 2) (L.map pxv), .fn 38 [.ptr 0 0]] (i64 (idxF k L 0)) [.cells 3 [i64 k]] := by
  refine ret_of Try.func83 rfl rfl rfl ?_
  refine ⟨Nat, idxS L k, fun j => j ≤ L.length ∧ idxF k L 0 = idxF k (L.drop j) j, fun j => L.length - j, 0, [(0, 0)], ⟨Nat.zero_le _, rfl⟩, ⟨rfl, rfl, rfl, ⟨rfl, rfl, rfl, rfl, rfl, rfl, rfl, rfl, trivial⟩, ⟨rfl, rfl, trivial⟩⟩, ?_⟩
  intro j hI
  have hj : j ≤ L.length := hI.1
  have hE : idxF k L 0 = idxF k (L.drop j) j := hI.2
  refine BM.split (fun h1 => ?_) (fun h1 => ?_)
  · have h1 : decide ((j : Int) < ((L.map pxv).length : Nat)) = true := h1
    rw [List.length_map, decide_eq_true_eq] at h1
    have hj2 : j < L.length := by omega
    have he : L[j]? = some L[j] := List.getElem?_eq_getElem hj2
    have hg : (L.map pxv)[((j : Int)).toNat]? = some (pxv L[j]) := pxv_get he
    rw [List.drop_eq_getElem_cons hj2] at hE
    have hE : idxF k L 0 = (if badF k L[j] then (j : Int) else idxF k (L.drop (j + 1)) (j + 1)) := hE
    generalize L[j] = e at *
    refine BM.split (fun _ => ?_) (fun h2 => ?_)
    rotate_left
    · have h2 : (true && decide (0 ≤ (j : Int)) && decide ((j : Int) < ((L.map pxv).length : Int))) = false := h2
      rw [List.length_map, Bool.true_and, Bool.and_eq_false_iff, decide_eq_false_iff_not, decide_eq_false_iff_not] at h2
      omega
    refine WE.intro hg ?_
    refine ⟨[0], .bool (badF k e), [.cells 3 [i64 k]], rfl, ?_, rfl, ?_⟩
    · exact close1_ret e k
    refine BM.split (fun h3 => ?_) (fun h3 => ?_)
    · have h3 : badF k e = true := h3
      exact ⟨eq2 (.int .i64 (j : Nat)) (by rw [hE, if_pos h3]) rfl, rfl, rfl, trivial⟩
    · have h3 : badF k e = false := h3
      exact ⟨j + 1, [(0, 0)], ⟨hj2, by rw [hE, if_neg (by rw [h3]; decide)]⟩, (show L.length - (j + 1) < L.length - j by omega), ⟨rfl, rfl, rfl, ⟨rfl, rfl, rfl, rfl, rfl, rfl, congrArg (AV.int .i64) (succ_wrap j (by omega)), rfl, trivial⟩, ⟨rfl, rfl, trivial⟩⟩⟩
  · have h1 : decide ((j : Int) < ((L.map pxv).length : Nat)) = false := h1
    rw [List.length_map, decide_eq_false_iff_not] at h1
    exact ⟨eq2 (i64 (-1)) (by rw [hE, List.drop_eq_nil_of_le (by omega)]; rfl) rfl, rfl, rfl, trivial⟩
theorem contains_ret (L : List Pt) (k : Int) (hL : L.length ≤ 1000000) :
    Ret Try.prog 41 [.cells 3 [i64 k]] [.sl (some 2) (L.map pxv), .fn 38 [.ptr 0 0]] (.bool (L.any (badF k))) [.cells 3 [i64 k]] := by
  refine ret_of Try.func41 rfl rfl rfl ?_
  refine ⟨[0], i64 (idxF k L 0), [.cells 3 [i64 k]], rfl, ?_, rfl, ?_⟩
  · exact indexFunc_ret L k hL
  exact ⟨eq2 (.bool (decide (idxF k L 0 ≥ 0))) (by rw [idxF_ge]) rfl, rfl, rfl, trivial⟩

end Go.Proofs.Ytllaijapijinoaa

namespace Go.Proofs.Ytllaijapijinoaa
open Go.Cw
set_option linter.unusedVariables false

/-- One vertex: none: it does not go on; or the place that is come to. -/
def closeStep (p : PV) (i m : Nat) (n d : Int) : Option (Int × Int) :=
  if p.no then none
  else if (i : Int) == 0 && lessF 0 1 p.fn p.fd then none
  else if (i : Int) == (m : Int) - 1 && lessF p.tn p.td 1 1 then none
  else if lessF n d p.fn p.fd then (if lessF p.tn p.td p.fn p.fd then none else some (p.fn, p.fd))
  else (if lessF p.tn p.td n d then none else some (n, d))
/-- The rest of a chain goes along a segment, from a place on. -/
def closeL (a b : Pt) (k far : Int) (m : Nat) : List Pt → Nat → Int → Int → Bool
  | [], _, _, _ => true
  | q :: L, i, n, d => match closeStep (nearPV a b (cenF q.x k) (cenF q.y k) far) i m n d with
    | none => false
    | some x => closeL a b k far m L (i + 1) x.1 x.2
def closeF (V : List Pt) (a b : Pt) (k far : Int) : Bool :=
  (decide (k ≥ 0) && decide (k ≤ 28)) && (rt a && (rt b && (!decide (far < 0) && (!decide (far > 268435456) && (!((V.length : Int) == 0) && (!V.any (badF k) && closeL a b k far V.length V 0 0 1))))))
def closeS (V : List Pt) (D : List AV) (a b : Pt) (k far : Int) : St :=
  ⟨[(4, i64 far), (5, .ptr 0 0), (6, .ptr 1 0), (7, .ptr 2 0), (8, .ptr 3 0)],
   [(0, .cells 34 [.sl (some 2) (V.map pxv), .sl none D]), (1, .cells 27 [i64 a.x, i64 a.y]), (2, .cells 27 [i64 b.x, i64 b.y]), (3, .cells 3 [i64 k])], 4⟩
def closeT (V : List Pt) (D : List AV) (a b : Pt) (k far : Int) (j : Nat) (n d : Int) : St :=
  ⟨[(4, i64 far), (5, .ptr 0 0), (6, .ptr 1 0), (7, .ptr 2 0), (8, .ptr 3 0), (12, .ptr 4 0), (52, .sl (some 2) (V.map pxv)), (53, .int .i64 ((V.map pxv).length : Nat)), (54, .int .i64 (j : Nat))],
   [(0, .cells 34 [.sl (some 2) (V.map pxv), .sl none D]), (1, .cells 27 [i64 a.x, i64 a.y]), (2, .cells 27 [i64 b.x, i64 b.y]), (3, .cells 3 [i64 k]), (4, .cells 86 [i64 n, i64 d])], 5⟩
theorem nearPV_in {a b : Pt} (ra : rt a = true) (rb : rt b = true) (cx cy far : Int) (hx : Bd 134217728 cx) (hy : Bd 134217728 cy) (f0 : 0 ≤ far) (f1 : far ≤ 268435456) : (nearPV a b cx cy far).In := by
  have ka := (rt_iff a).1 ra
  have kb := (rt_iff b).1 rb
  obtain ⟨x1, x2⟩ := hx
  obtain ⟨y1, y2⟩ := hy
  have n1 : (near1 a b cx cy far).In := narrowF_in pv0_in ⟨by omega, by omega⟩ ⟨by omega, by omega⟩
  have n2 : (near2 a b cx cy far).In := narrowF_in n1 ⟨by omega, by omega⟩ ⟨by omega, by omega⟩
  have n3 : (near3 a b cx cy far).In := narrowF_in n2 ⟨by omega, by omega⟩ ⟨by omega, by omega⟩
  have n4 : (near4 a b cx cy far).In := narrowF_in n3 ⟨by omega, by omega⟩ ⟨by omega, by omega⟩
  exact ⟨n4.a, n4.b, n4.c, n4.d⟩

structure CloseI (a b : Pt) (k far : Int) (V : List Pt) (j : Nat) (n d : Int) : Prop where
  le : j ≤ V.length
  bn : Bd 1073741824 n
  bd : Bd 1073741824 d
  eq : closeL a b k far V.length V 0 0 1 = closeL a b k far V.length (V.drop j) j n d
theorem CloseI.stop {a b : Pt} {k far : Int} {V : List Pt} {j : Nat} {n d : Int} (h : CloseI a b k far V j n d) (hj : j < V.length) (hs : closeStep (nearPV a b (cenF (V[j]).x k) (cenF (V[j]).y k) far) j V.length n d = none) :
    closeL a b k far V.length V 0 0 1 = false := by
  rw [h.eq, List.drop_eq_getElem_cons hj, closeL, hs]
theorem CloseI.go {a b : Pt} {k far : Int} {V : List Pt} {j : Nat} {n d : Int} (h : CloseI a b k far V j n d) (hj : j < V.length) {n' d' : Int} (hn : Bd 1073741824 n') (hd : Bd 1073741824 d')
    (hs : closeStep (nearPV a b (cenF (V[j]).x k) (cenF (V[j]).y k) far) j V.length n d = some (n', d')) : CloseI a b k far V (j + 1) n' d' := by
  refine ⟨hj, hn, hd, ?_⟩
  rw [h.eq, List.drop_eq_getElem_cons hj, closeL, hs]

end Go.Proofs.Ytllaijapijinoaa

namespace Go.Proofs.Ytllaijapijinoaa
open Go.Cw
set_option linter.unusedVariables false
set_option linter.unusedSimpArgs false

set_option maxRecDepth 100000 in
set_option maxHeartbeats 64000000 in
theorem close_loop {V : List Pt} (D : List AV) {a b : Pt} {k far : Int} (hV : V.length ≤ 1000000) (hne : ((V.length : Int) == 0) = false) (hk : decide (k ≥ 0) = true) (hk' : decide (k ≤ 28) = true) (ra : rt a = true) (rb : rt b = true)
    (f0 : decide (far < 0) = false) (f1 : decide (far > 268435456) = false) (hbad : V.any (badF k) = false) :
    Ret Try.prog 14 [] [.ag [.sl (some 2) (V.map pxv), .sl none D], pt a.x a.y, pt b.x b.y, i64 k, i64 far] (.bool (closeL a b k far V.length V 0 0 1)) [] := by
  have g0 : 0 ≤ far := by simpa using f0
  have g1 : far ≤ 268435456 := by simpa using f1
  have gr := gridRight_ret k
  rw [hk, hk'] at gr
  refine ret_cut [3, 1] Try.func14 rfl rfl rfl ?_
  refine RC.use gr rfl ?_
  refine RC.use (crossRight_of ra) rfl ?_
  refine RC.use (crossRight_of rb) rfl ?_
  refine BM.split (fun q => ?_) (fun _ => ?_)
  · exact absurd (q.symm.trans f0) (by decide)
  refine BM.split (fun q => ?_) (fun _ => ?_)
  · exact absurd (q.symm.trans f1) (by decide)
  refine BM.split (fun q => ?_) (fun _ => ?_)
  · have q : (((V.map pxv).length : Int) == 0) = true := q
    rw [List.length_map] at q
    exact absurd (q.symm.trans hne) (by decide)
  refine ⟨[3], .bool (V.any (badF k)), [.cells 3 [i64 k]], rfl, ?_, rfl, ?_⟩
  · exact contains_ret V k hV
  refine BM.split (fun q => ?_) (fun _ => ?_)
  · have q : V.any (badF k) = true := q
    exact absurd (q.symm.trans hbad) (by decide)
  refine ⟨closeS V D a b k far, [(0, 0), (1, 1), (2, 2), (3, 3)], ⟨rfl, rfl, rfl, ⟨rfl, rfl, rfl, rfl, rfl, rfl, rfl, rfl, rfl, rfl, trivial⟩, ⟨rfl, rfl, rfl, rfl, rfl, rfl, rfl, rfl, trivial⟩⟩, ?_⟩
  refine ⟨⟨[(4, i64 far), (5, .ptr 0 0), (6, .ptr 1 0), (7, .ptr 2 0), (8, .ptr 3 0), (12, .ptr 4 0)],
   [(0, .cells 34 [.sl (some 2) (V.map pxv), .sl none D]), (1, .cells 27 [i64 a.x, i64 a.y]), (2, .cells 27 [i64 b.x, i64 b.y]), (3, .cells 3 [i64 k]), (4, .cells 86 [i64 0, i64 1])], 5⟩, [(0, 0), (1, 1), (2, 2), (3, 3), (4, 4)], ⟨rfl, rfl, rfl, ⟨rfl, rfl, rfl, rfl, rfl, rfl, rfl, rfl, rfl, rfl, rfl, rfl, trivial⟩, ⟨rfl, rfl, rfl, rfl, rfl, rfl, rfl, rfl, rfl, rfl, trivial⟩⟩, ?_⟩
  refine ⟨Nat × Int × Int, fun x => closeT V D a b k far x.1 x.2.1 x.2.2, fun x => CloseI a b k far V x.1 x.2.1 x.2.2, fun x => V.length - x.1, (0, 0, 1), [(0, 0), (1, 1), (2, 2), (3, 3), (4, 4)], ⟨Nat.zero_le _, ⟨by decide, by decide⟩, ⟨by decide, by decide⟩, rfl⟩, ⟨rfl, rfl, rfl, ⟨rfl, rfl, rfl, rfl, rfl, rfl, rfl, rfl, rfl, rfl, rfl, rfl, rfl, rfl, rfl, rfl, rfl, rfl, trivial⟩, ⟨rfl, rfl, rfl, rfl, rfl, rfl, rfl, rfl, rfl, rfl, trivial⟩⟩, ?_⟩
  intro x hI
  obtain ⟨j, n, d⟩ := x
  have hI : CloseI a b k far V j n d := hI
  have hjl := hI.le
  refine BM.split (fun h1 => ?_) (fun h1 => ?_)
  rotate_left
  · have h1 : decide ((j : Int) < ((V.map pxv).length : Nat)) = false := h1
    rw [List.length_map, decide_eq_false_iff_not] at h1
    exact ⟨eq2 (.bool true) (by rw [hI.eq, List.drop_eq_nil_of_le (by omega)]; rfl) rfl, rfl, trivial⟩
  have h1 : decide ((j : Int) < ((V.map pxv).length : Nat)) = true := h1
  rw [List.length_map, decide_eq_true_eq] at h1
  have hj : j < V.length := by omega
  have hstop := hI.stop hj
  have hgo := @CloseI.go _ _ _ _ _ _ _ _ hI hj
  have hg : (V.map pxv)[((j : Int)).toNat]? = some (pxv V[j]) := pxv_get (List.getElem?_eq_getElem hj)
  have hq : badF k V[j] = false := by
    have := (List.any_eq_false.1 hbad) V[j] (List.getElem_mem hj)
    simpa using this
  generalize V[j] = q at *
  have hq2 : nearF q.x k = true ∧ nearF q.y k = true := by
    unfold badF at hq
    simpa using hq
  have cx := cen_bd hq2.1
  have cy := cen_bd hq2.2
  have hc := center_ret q.x q.y k hq2.1 hq2.2
  have hn := near_ret ra rb (cenF q.x k) (cenF q.y k) far cx cy g0 g1
  have pI := nearPV_in ra rb (cenF q.x k) (cenF q.y k) far cx cy g0 g1
  generalize nearPV a b (cenF q.x k) (cenF q.y k) far = p at *
  generalize cenF q.x k = X at *
  generalize cenF q.y k = Y at *
  have one : Bd 1073741824 1 := ⟨by decide, by decide⟩
  have zer : Bd 1073741824 0 := ⟨by decide, by decide⟩
  have l1 := less_ret 0 1 p.fn p.fd zer one pI.a pI.b
  have l2 := less_ret p.tn p.td 1 1 pI.c pI.d one one
  have l3 := less_ret n d p.fn p.fd hI.bn hI.bd pI.a pI.b
  have l4 := less_ret p.tn p.td p.fn p.fd pI.c pI.d pI.a pI.b
  have l5 := less_ret p.tn p.td n d pI.c pI.d hI.bn hI.bd
  have hw : IntKind.wrap .i64 ((((V.map pxv).length : Nat) : Int) - 1) = (V.length : Int) - 1 := by rw [List.length_map, IntKind.wrap_i64]; omega
  refine BM.split (fun _ => ?_) (fun h2 => ?_)
  rotate_left
  · have h2 : (true && decide (0 ≤ (j : Int)) && decide ((j : Int) < ((V.map pxv).length : Int))) = false := h2
    rw [List.length_map, Bool.true_and, Bool.and_eq_false_iff, decide_eq_false_iff_not, decide_eq_false_iff_not] at h2
    omega
  refine WE.intro hg ?_
  refine RC.use hc rfl ?_
  refine RC.use hn rfl ?_
  refine CL.yes (by kernel_rfl) ?_
  refine BM.split (fun kn => ?_) (fun kn => ?_)
  · have kn : p.no = true := kn
    exact ⟨eq2 (.bool false) (by rw [hstop (by unfold closeStep; simp only [kn, if_true])]) rfl, rfl, trivial⟩
  have kn : p.no = false := kn
  refine BM.split (fun k0 => ?_) (fun k0 => ?_)
  · have k0 : ((j : Int) == 0) = true := k0
    refine RC.use l1 rfl ?_
    refine BM.split (fun k1 => ?_) (fun k1 => ?_)
    · have k1 : lessF 0 1 p.fn p.fd = true := k1
      exact ⟨eq2 (.bool false) (by rw [hstop (by unfold closeStep; simp only [kn, k0, k1, Bool.true_and, Bool.false_and, if_true, if_false, Bool.false_eq_true])]) rfl, rfl, trivial⟩
    · have k1 : lessF 0 1 p.fn p.fd = false := k1
      refine BM.split (fun k2 => ?_) (fun k2 => ?_)
      · have k2 : ((j : Int) == IntKind.wrap .i64 ((((V.map pxv).length : Nat) : Int) - 1)) = true := k2
        rw [hw] at k2
        refine RC.use l2 rfl ?_
        refine BM.split (fun k3 => ?_) (fun k3 => ?_)
        · have k3 : lessF p.tn p.td 1 1 = true := k3
          exact ⟨eq2 (.bool false) (by rw [hstop (by unfold closeStep; simp only [kn, k0, k1, k2, k3, Bool.true_and, Bool.false_and, if_true, if_false, Bool.false_eq_true])]) rfl, rfl, trivial⟩
        · have k3 : lessF p.tn p.td 1 1 = false := k3
          refine RC.use l3 rfl ?_
          refine BM.split (fun k4 => ?_) (fun k4 => ?_)
          · have k4 : lessF n d p.fn p.fd = true := k4
            refine RC.use l4 rfl ?_
            refine BM.split (fun k5 => ?_) (fun k5 => ?_)
            · have k5 : lessF p.tn p.td p.fn p.fd = true := k5
              exact ⟨eq2 (.bool false) (by rw [hstop (by unfold closeStep; simp only [kn, k0, k1, k2, k3, k4, k5, Bool.true_and, Bool.false_and, if_true, if_false, Bool.false_eq_true])]) rfl, rfl, trivial⟩
            · have k5 : lessF p.tn p.td p.fn p.fd = false := k5
              exact ⟨(j + 1, p.fn, p.fd), [(0, 0), (1, 1), (2, 2), (3, 3), (4, 4)], hgo pI.a pI.b (by unfold closeStep; simp only [kn, k0, k1, k2, k3, k4, k5, Bool.true_and, Bool.false_and, if_true, if_false, Bool.false_eq_true]), (show V.length - (j + 1) < V.length - j by omega), ⟨rfl, rfl, rfl, ⟨rfl, rfl, rfl, rfl, rfl, rfl, rfl, rfl, rfl, rfl, rfl, rfl, rfl, rfl, rfl, rfl, congrArg (AV.int .i64) (succ_wrap j (by omega)), rfl, trivial⟩, ⟨rfl, rfl, rfl, rfl, rfl, rfl, rfl, rfl, rfl, rfl, trivial⟩⟩⟩
          · have k4 : lessF n d p.fn p.fd = false := k4
            refine RC.use l5 rfl ?_
            refine BM.split (fun k5 => ?_) (fun k5 => ?_)
            · have k5 : lessF p.tn p.td n d = true := k5
              exact ⟨eq2 (.bool false) (by rw [hstop (by unfold closeStep; simp only [kn, k0, k1, k2, k3, k4, k5, Bool.true_and, Bool.false_and, if_true, if_false, Bool.false_eq_true])]) rfl, rfl, trivial⟩
            · have k5 : lessF p.tn p.td n d = false := k5
              exact ⟨(j + 1, n, d), [(0, 0), (1, 1), (2, 2), (3, 3), (4, 4)], hgo hI.bn hI.bd (by unfold closeStep; simp only [kn, k0, k1, k2, k3, k4, k5, Bool.true_and, Bool.false_and, if_true, if_false, Bool.false_eq_true]), (show V.length - (j + 1) < V.length - j by omega), ⟨rfl, rfl, rfl, ⟨rfl, rfl, rfl, rfl, rfl, rfl, rfl, rfl, rfl, rfl, rfl, rfl, rfl, rfl, rfl, rfl, congrArg (AV.int .i64) (succ_wrap j (by omega)), rfl, trivial⟩, ⟨rfl, rfl, rfl, rfl, rfl, rfl, rfl, rfl, rfl, rfl, trivial⟩⟩⟩
      · have k2 : ((j : Int) == IntKind.wrap .i64 ((((V.map pxv).length : Nat) : Int) - 1)) = false := k2
        rw [hw] at k2
        refine RC.use l3 rfl ?_
        refine BM.split (fun k4 => ?_) (fun k4 => ?_)
        · have k4 : lessF n d p.fn p.fd = true := k4
          refine RC.use l4 rfl ?_
          refine BM.split (fun k5 => ?_) (fun k5 => ?_)
          · have k5 : lessF p.tn p.td p.fn p.fd = true := k5
            exact ⟨eq2 (.bool false) (by rw [hstop (by unfold closeStep; simp only [kn, k0, k1, k2, k4, k5, Bool.true_and, Bool.false_and, if_true, if_false, Bool.false_eq_true])]) rfl, rfl, trivial⟩
          · have k5 : lessF p.tn p.td p.fn p.fd = false := k5
            exact ⟨(j + 1, p.fn, p.fd), [(0, 0), (1, 1), (2, 2), (3, 3), (4, 4)], hgo pI.a pI.b (by unfold closeStep; simp only [kn, k0, k1, k2, k4, k5, Bool.true_and, Bool.false_and, if_true, if_false, Bool.false_eq_true]), (show V.length - (j + 1) < V.length - j by omega), ⟨rfl, rfl, rfl, ⟨rfl, rfl, rfl, rfl, rfl, rfl, rfl, rfl, rfl, rfl, rfl, rfl, rfl, rfl, rfl, rfl, congrArg (AV.int .i64) (succ_wrap j (by omega)), rfl, trivial⟩, ⟨rfl, rfl, rfl, rfl, rfl, rfl, rfl, rfl, rfl, rfl, trivial⟩⟩⟩
        · have k4 : lessF n d p.fn p.fd = false := k4
          refine RC.use l5 rfl ?_
          refine BM.split (fun k5 => ?_) (fun k5 => ?_)
          · have k5 : lessF p.tn p.td n d = true := k5
            exact ⟨eq2 (.bool false) (by rw [hstop (by unfold closeStep; simp only [kn, k0, k1, k2, k4, k5, Bool.true_and, Bool.false_and, if_true, if_false, Bool.false_eq_true])]) rfl, rfl, trivial⟩
          · have k5 : lessF p.tn p.td n d = false := k5
            exact ⟨(j + 1, n, d), [(0, 0), (1, 1), (2, 2), (3, 3), (4, 4)], hgo hI.bn hI.bd (by unfold closeStep; simp only [kn, k0, k1, k2, k4, k5, Bool.true_and, Bool.false_and, if_true, if_false, Bool.false_eq_true]), (show V.length - (j + 1) < V.length - j by omega), ⟨rfl, rfl, rfl, ⟨rfl, rfl, rfl, rfl, rfl, rfl, rfl, rfl, rfl, rfl, rfl, rfl, rfl, rfl, rfl, rfl, congrArg (AV.int .i64) (succ_wrap j (by omega)), rfl, trivial⟩, ⟨rfl, rfl, rfl, rfl, rfl, rfl, rfl, rfl, rfl, rfl, trivial⟩⟩⟩
  · have k0 : ((j : Int) == 0) = false := k0
    refine BM.split (fun k2 => ?_) (fun k2 => ?_)
    · have k2 : ((j : Int) == IntKind.wrap .i64 ((((V.map pxv).length : Nat) : Int) - 1)) = true := k2
      rw [hw] at k2
      refine RC.use l2 rfl ?_
      refine BM.split (fun k3 => ?_) (fun k3 => ?_)
      · have k3 : lessF p.tn p.td 1 1 = true := k3
        exact ⟨eq2 (.bool false) (by rw [hstop (by unfold closeStep; simp only [kn, k0, k2, k3, Bool.true_and, Bool.false_and, if_true, if_false, Bool.false_eq_true])]) rfl, rfl, trivial⟩
      · have k3 : lessF p.tn p.td 1 1 = false := k3
        refine RC.use l3 rfl ?_
        refine BM.split (fun k4 => ?_) (fun k4 => ?_)
        · have k4 : lessF n d p.fn p.fd = true := k4
          refine RC.use l4 rfl ?_
          refine BM.split (fun k5 => ?_) (fun k5 => ?_)
          · have k5 : lessF p.tn p.td p.fn p.fd = true := k5
            exact ⟨eq2 (.bool false) (by rw [hstop (by unfold closeStep; simp only [kn, k0, k2, k3, k4, k5, Bool.true_and, Bool.false_and, if_true, if_false, Bool.false_eq_true])]) rfl, rfl, trivial⟩
          · have k5 : lessF p.tn p.td p.fn p.fd = false := k5
            exact ⟨(j + 1, p.fn, p.fd), [(0, 0), (1, 1), (2, 2), (3, 3), (4, 4)], hgo pI.a pI.b (by unfold closeStep; simp only [kn, k0, k2, k3, k4, k5, Bool.true_and, Bool.false_and, if_true, if_false, Bool.false_eq_true]), (show V.length - (j + 1) < V.length - j by omega), ⟨rfl, rfl, rfl, ⟨rfl, rfl, rfl, rfl, rfl, rfl, rfl, rfl, rfl, rfl, rfl, rfl, rfl, rfl, rfl, rfl, congrArg (AV.int .i64) (succ_wrap j (by omega)), rfl, trivial⟩, ⟨rfl, rfl, rfl, rfl, rfl, rfl, rfl, rfl, rfl, rfl, trivial⟩⟩⟩
        · have k4 : lessF n d p.fn p.fd = false := k4
          refine RC.use l5 rfl ?_
          refine BM.split (fun k5 => ?_) (fun k5 => ?_)
          · have k5 : lessF p.tn p.td n d = true := k5
            exact ⟨eq2 (.bool false) (by rw [hstop (by unfold closeStep; simp only [kn, k0, k2, k3, k4, k5, Bool.true_and, Bool.false_and, if_true, if_false, Bool.false_eq_true])]) rfl, rfl, trivial⟩
          · have k5 : lessF p.tn p.td n d = false := k5
            exact ⟨(j + 1, n, d), [(0, 0), (1, 1), (2, 2), (3, 3), (4, 4)], hgo hI.bn hI.bd (by unfold closeStep; simp only [kn, k0, k2, k3, k4, k5, Bool.true_and, Bool.false_and, if_true, if_false, Bool.false_eq_true]), (show V.length - (j + 1) < V.length - j by omega), ⟨rfl, rfl, rfl, ⟨rfl, rfl, rfl, rfl, rfl, rfl, rfl, rfl, rfl, rfl, rfl, rfl, rfl, rfl, rfl, rfl, congrArg (AV.int .i64) (succ_wrap j (by omega)), rfl, trivial⟩, ⟨rfl, rfl, rfl, rfl, rfl, rfl, rfl, rfl, rfl, rfl, trivial⟩⟩⟩
    · have k2 : ((j : Int) == IntKind.wrap .i64 ((((V.map pxv).length : Nat) : Int) - 1)) = false := k2
      rw [hw] at k2
      refine RC.use l3 rfl ?_
      refine BM.split (fun k4 => ?_) (fun k4 => ?_)
      · have k4 : lessF n d p.fn p.fd = true := k4
        refine RC.use l4 rfl ?_
        refine BM.split (fun k5 => ?_) (fun k5 => ?_)
        · have k5 : lessF p.tn p.td p.fn p.fd = true := k5
          exact ⟨eq2 (.bool false) (by rw [hstop (by unfold closeStep; simp only [kn, k0, k2, k4, k5, Bool.true_and, Bool.false_and, if_true, if_false, Bool.false_eq_true])]) rfl, rfl, trivial⟩
        · have k5 : lessF p.tn p.td p.fn p.fd = false := k5
          exact ⟨(j + 1, p.fn, p.fd), [(0, 0), (1, 1), (2, 2), (3, 3), (4, 4)], hgo pI.a pI.b (by unfold closeStep; simp only [kn, k0, k2, k4, k5, Bool.true_and, Bool.false_and, if_true, if_false, Bool.false_eq_true]), (show V.length - (j + 1) < V.length - j by omega), ⟨rfl, rfl, rfl, ⟨rfl, rfl, rfl, rfl, rfl, rfl, rfl, rfl, rfl, rfl, rfl, rfl, rfl, rfl, rfl, rfl, congrArg (AV.int .i64) (succ_wrap j (by omega)), rfl, trivial⟩, ⟨rfl, rfl, rfl, rfl, rfl, rfl, rfl, rfl, rfl, rfl, trivial⟩⟩⟩
      · have k4 : lessF n d p.fn p.fd = false := k4
        refine RC.use l5 rfl ?_
        refine BM.split (fun k5 => ?_) (fun k5 => ?_)
        · have k5 : lessF p.tn p.td n d = true := k5
          exact ⟨eq2 (.bool false) (by rw [hstop (by unfold closeStep; simp only [kn, k0, k2, k4, k5, Bool.true_and, Bool.false_and, if_true, if_false, Bool.false_eq_true])]) rfl, rfl, trivial⟩
        · have k5 : lessF p.tn p.td n d = false := k5
          exact ⟨(j + 1, n, d), [(0, 0), (1, 1), (2, 2), (3, 3), (4, 4)], hgo hI.bn hI.bd (by unfold closeStep; simp only [kn, k0, k2, k4, k5, Bool.true_and, Bool.false_and, if_true, if_false, Bool.false_eq_true]), (show V.length - (j + 1) < V.length - j by omega), ⟨rfl, rfl, rfl, ⟨rfl, rfl, rfl, rfl, rfl, rfl, rfl, rfl, rfl, rfl, rfl, rfl, rfl, rfl, rfl, rfl, congrArg (AV.int .i64) (succ_wrap j (by omega)), rfl, trivial⟩, ⟨rfl, rfl, rfl, rfl, rfl, rfl, rfl, rfl, rfl, rfl, trivial⟩⟩⟩

end Go.Proofs.Ytllaijapijinoaa

namespace Go.Proofs.Ytllaijapijinoaa
open Go.Cw
set_option linter.unusedVariables false

theorem gridRight_of {k : Int} {t : Bool} (h : (decide (k ≥ 0) && decide (k ≤ 28)) = t) : Ret Try.prog 40 [] [i64 k] (.bool t) [] := by
  subst h; exact gridRight_ret k
set_option maxRecDepth 100000 in
set_option maxHeartbeats 16000000 in
theorem close_ret (V : List Pt) (D : List AV) (a b : Pt) (k far : Int) (hV : V.length ≤ 1000000) :
    Ret Try.prog 14 [] [.ag [.sl (some 2) (V.map pxv), .sl none D], pt a.x a.y, pt b.x b.y, i64 k, i64 far] (.bool (closeF V a b k far)) [] := by
  cases h1 : (decide (k ≥ 0) && decide (k ≤ 28))
  · rw [show closeF V a b k far = false by unfold closeF; rw [h1]; rfl]
    refine ret_of Try.func14 rfl rfl rfl ?_
    refine RC.use (gridRight_of h1) rfl ?_
    exact ⟨rfl, rfl, trivial⟩
  cases ra : rt a
  · rw [show closeF V a b k far = false by unfold closeF; rw [h1, ra]; rfl]
    refine ret_of Try.func14 rfl rfl rfl ?_
    refine RC.use (gridRight_of h1) rfl ?_
    refine RC.use (crossRight_of ra) rfl ?_
    exact ⟨rfl, rfl, trivial⟩
  cases rb : rt b
  · rw [show closeF V a b k far = false by unfold closeF; rw [h1, ra, rb]; rfl]
    refine ret_of Try.func14 rfl rfl rfl ?_
    refine RC.use (gridRight_of h1) rfl ?_
    refine RC.use (crossRight_of ra) rfl ?_
    refine RC.use (crossRight_of rb) rfl ?_
    exact ⟨rfl, rfl, trivial⟩
  cases f0 : decide (far < 0)
  rotate_left
  · rw [show closeF V a b k far = false by unfold closeF; rw [h1, ra, rb, f0]; rfl]
    refine ret_of Try.func14 rfl rfl rfl ?_
    refine RC.use (gridRight_of h1) rfl ?_
    refine RC.use (crossRight_of ra) rfl ?_
    refine RC.use (crossRight_of rb) rfl ?_
    refine BM.split (fun _ => ?_) (fun q => ?_)
    · exact ⟨rfl, rfl, trivial⟩
    · exact absurd (f0.symm.trans q) (by decide)
  cases f1 : decide (far > 268435456)
  rotate_left
  · rw [show closeF V a b k far = false by unfold closeF; rw [h1, ra, rb, f0, f1]; rfl]
    refine ret_of Try.func14 rfl rfl rfl ?_
    refine RC.use (gridRight_of h1) rfl ?_
    refine RC.use (crossRight_of ra) rfl ?_
    refine RC.use (crossRight_of rb) rfl ?_
    refine BM.split (fun q => ?_) (fun _ => ?_)
    · exact absurd (q.symm.trans f0) (by decide)
    refine BM.split (fun _ => ?_) (fun q => ?_)
    · exact ⟨rfl, rfl, trivial⟩
    · exact absurd (f1.symm.trans q) (by decide)
  cases hne : ((V.length : Int) == 0)
  rotate_left
  · rw [show closeF V a b k far = false by unfold closeF; rw [h1, ra, rb, f0, f1, hne]; rfl]
    refine ret_of Try.func14 rfl rfl rfl ?_
    refine RC.use (gridRight_of h1) rfl ?_
    refine RC.use (crossRight_of ra) rfl ?_
    refine RC.use (crossRight_of rb) rfl ?_
    refine BM.split (fun q => ?_) (fun _ => ?_)
    · exact absurd (q.symm.trans f0) (by decide)
    refine BM.split (fun q => ?_) (fun _ => ?_)
    · exact absurd (q.symm.trans f1) (by decide)
    refine BM.split (fun _ => ?_) (fun q => ?_)
    · exact ⟨rfl, rfl, trivial⟩
    · have q : (((V.map pxv).length : Int) == 0) = false := q
      rw [List.length_map] at q
      exact absurd (hne.symm.trans q) (by decide)
  cases hbad : V.any (badF k)
  rotate_left
  · rw [show closeF V a b k far = false by unfold closeF; rw [h1, ra, rb, f0, f1, hne, hbad]; rfl]
    refine ret_of Try.func14 rfl rfl rfl ?_
    refine RC.use (gridRight_of h1) rfl ?_
    refine RC.use (crossRight_of ra) rfl ?_
    refine RC.use (crossRight_of rb) rfl ?_
    refine BM.split (fun q => ?_) (fun _ => ?_)
    · exact absurd (q.symm.trans f0) (by decide)
    refine BM.split (fun q => ?_) (fun _ => ?_)
    · exact absurd (q.symm.trans f1) (by decide)
    refine BM.split (fun q => ?_) (fun _ => ?_)
    · have q : (((V.map pxv).length : Int) == 0) = true := q
      rw [List.length_map] at q
      exact absurd (q.symm.trans hne) (by decide)
    refine ⟨[3], .bool (V.any (badF k)), [.cells 3 [i64 k]], rfl, ?_, rfl, ?_⟩
    · exact contains_ret V k hV
    refine BM.split (fun _ => ?_) (fun q => ?_)
    · exact ⟨rfl, rfl, trivial⟩
    · have q : V.any (badF k) = false := q
      exact absurd (hbad.symm.trans q) (by decide)
  rw [show closeF V a b k far = closeL a b k far V.length V 0 0 1 by unfold closeF; rw [h1, ra, rb, f0, f1, hne, hbad]; rfl]
  rw [Bool.and_eq_true] at h1
  exact close_loop D hV hne h1.1 h1.2 ra rb f0 f1 hbad

end Go.Proofs.Ytllaijapijinoaa

namespace Go.Proofs.Ytllaijapijinoaa
open Go.Cw
set_option linter.unusedVariables false

theorem rung3_ret (k : Int) : Ret Try.prog 44 [] [i64 k] (i64 (rungF k)) [] := by
  refine ret_of Try.func44 rfl rfl rfl ?_
  refine BM.split (fun h => ?_) (fun h => ?_)
  · have h : decide (k < 0) = true := h
    rw [decide_eq_true_eq] at h
    exact ⟨eq2 (i64 0) (by congr 1; unfold rungF mnE mxE; rw [if_pos (by omega : (0 : Int) > k)]; rfl) rfl, rfl, trivial⟩
  · have h : decide (k < 0) = false := h
    rw [decide_eq_false_iff_not] at h
    have e : mxE k 0 = k := by unfold mxE; split <;> omega
    refine BM.split (fun h2 => ?_) (fun h2 => ?_)
    · have h2 : decide (k > 28) = true := h2
      rw [decide_eq_true_eq] at h2
      exact ⟨eq2 (i64 28) (by congr 1; unfold rungF; rw [e]; unfold mnE; rw [if_pos (by omega)]) rfl, rfl, trivial⟩
    · have h2 : decide (k > 28) = false := h2
      rw [decide_eq_false_iff_not] at h2
      exact ⟨eq2 (i64 k) (by congr 1; unfold rungF; rw [e]; unfold mnE; rw [if_neg (by omega)]) rfl, rfl, trivial⟩
def powS' (K : Int) (k : Nat) : St :=
  ⟨[(0, i64 K), (2, .ptr 0 0), (3, .ptr 1 0), (4, dn k)], [(0, .cells 64 [.bool false, .nilsl]), (1, .cells 64 [.bool (decide (pw k < 0)), dsl (dg (pw k).natAbs)])], 2⟩
theorem pow_ret (K : Int) (h0 : 0 ≤ K) (h1 : K ≤ 100) : Ret Try.prog 115 [] [i64 K] (nz (pw K.toNat)) [] := by
  refine ret_of Try.func115 rfl rfl rfl ?_
  refine RC.use (of_ret (pw 0) ⟨by decide, by decide⟩) rfl ?_
  refine ⟨Nat, powS' K, fun k => k ≤ K.toNat, fun k => K.toNat - k, 0, [(0, 0), (1, 1)], Nat.zero_le _, ⟨rfl, rfl, rfl, ⟨rfl, rfl, rfl, rfl, rfl, rfl, rfl, rfl, trivial⟩, ⟨rfl, rfl, rfl, rfl, trivial⟩⟩, ?_⟩
  intro k hk
  have hk : k ≤ K.toNat := hk
  refine BM.split (fun h2 => ?_) (fun h2 => ?_)
  · have h2 : decide ((k : Int) < K) = true := h2
    rw [decide_eq_true_eq] at h2
    refine RC.use (add_ret (pw k) (pw k) ((pw_bg k).le (by omega)) ((pw_bg k).le (by omega))) rfl ?_
    exact ⟨k + 1, [(0, 0), (1, 1)], (show k + 1 ≤ K.toNat by omega), (show K.toNat - (k + 1) < K.toNat - k by omega), ⟨rfl, rfl, rfl, ⟨rfl, rfl, rfl, rfl, rfl, rfl, congrArg (AV.int .i64) (wrap_succ k (by omega)), rfl, trivial⟩, ⟨rfl, rfl, rfl, rfl, trivial⟩⟩⟩
  · have h2 : decide ((k : Int) < K) = false := h2
    rw [decide_eq_false_iff_not] at h2
    exact ⟨eq2 (nz (pw k)) (by rw [show k = K.toNat by omega]) rfl, rfl, trivial⟩
theorem pw_two (k : Nat) : pw k = 2 ^ k := by
  induction k with
  | zero => rfl
  | succ k ih => rw [pw, ih, Int.pow_succ]; omega
def near3F (n k : Int) : Bool := decide (cmp3 (n * pw k.toNat) (-pw 27) ≥ 0) && decide (cmp3 (n * pw k.toNat) (pw 27) ≤ 0)
theorem near3_ret (n k : Int) (hn : Bg 1000 n) (h0 : 0 ≤ k) (h1 : k ≤ 100) : Ret Try.prog 85 [] [nz n, i64 k] (.bool (near3F n k)) [] := by
  have bk : Bg 1000 (pw k.toNat) := (pw_bg _).le (by omega)
  have b27 : Bg 1000 (pw 27) := (pw_bg 27).le (by decide)
  have bp := (hn.mul bk).le (show 1000 + 1000 ≤ 100000 by decide)
  have p27 := pow_ret 27 (by decide) (by decide)
  refine ret_of Try.func85 rfl rfl rfl ?_
  refine RC.use (pow_ret k h0 h1) rfl ?_
  refine RC.use (mul_ret n (pw k.toNat) (hn.le (by decide)) (bk.le (by decide))) rfl ?_
  refine CL.yes (by kernel_rfl) ?_
  refine RC.use p27 rfl ?_
  refine RC.use (neg_ret (pw 27) (b27.le (by decide))) rfl ?_
  refine RC.use (cmpN_ret (n * pw k.toNat) (-pw 27) bp (b27.neg.le (by decide))) rfl ?_
  refine BM.split (fun h => ?_) (fun h => ?_)
  · have h : decide (cmp3 (n * pw k.toNat) (-pw 27) ≥ 0) = true := h
    refine RC.use p27 rfl ?_
    refine RC.use (cmpN_ret (n * pw k.toNat) (pw 27) bp (b27.le (by decide))) rfl ?_
    refine CL.yes (by kernel_rfl) ?_
    exact ⟨eq2 (.bool (decide (cmp3 (n * pw k.toNat) (pw 27) ≤ 0))) (by unfold near3F; rw [h, Bool.true_and]) rfl, rfl, trivial⟩
  · have h : decide (cmp3 (n * pw k.toNat) (-pw 27) ≥ 0) = false := h
    refine CL.yes (by kernel_rfl) ?_
    exact ⟨eq2 (.bool false) (by unfold near3F; rw [h, Bool.false_and]) rfl, rfl, trivial⟩
theorem in3_ret (x y k : Int) (hx : InI x) (hy : InI y) : Ret Try.prog 45 [] [pt x y, i64 k] (.bool (near3F x (rungF k) && near3F y (rungF k))) [] := by
  have hk := rungF_bd k
  refine ret_of Try.func45 rfl rfl rfl ?_
  refine RC.use (of_ret x hx) rfl ?_
  refine RC.use (rung3_ret k) rfl ?_
  refine RC.use (near3_ret x (rungF k) ((bg_int hx).le (by decide)) hk.1 (by omega)) rfl ?_
  refine BM.split (fun h => ?_) (fun h => ?_)
  · have h : near3F x (rungF k) = true := h
    refine RC.use (of_ret y hy) rfl ?_
    refine RC.use (rung3_ret k) rfl ?_
    refine RC.use (near3_ret y (rungF k) ((bg_int hy).le (by decide)) hk.1 (by omega)) rfl ?_
    exact ⟨eq2 (.bool (near3F y (rungF k))) (by rw [h, Bool.true_and]) rfl, rfl, trivial⟩
  · have h : near3F x (rungF k) = false := h
    exact ⟨eq2 (.bool false) (by rw [h, Bool.false_and]) rfl, rfl, trivial⟩
/-- The document and the program agree on which centers may be. -/
theorem near_eq (n k : Int) (hn : InI n) : near3F n (rungF k) = nearF n k := by
  have hk := rungF_bd k
  obtain ⟨n1, n2⟩ := hn
  have hc : ∀ x y : Int, (cmp3 x y ≥ 0 ↔ y ≤ x) ∧ (cmp3 x y ≤ 0 ↔ x ≤ y) := fun x y => by
    unfold cmp3
    split
    · omega
    · split <;> omega
  unfold near3F nearF farF
  have e : min (rungF k).toNat (IntKind.bits .i64) = (rungF k).toNat := by show min (rungF k).toNat 64 = _; omega
  rw [e, Bool.eq_iff_iff]
  simp only [Bool.and_eq_true, decide_eq_true_eq, (hc _ _).1, (hc _ _).2]
  have : (rungF k).toNat ≤ 28 := by omega
  generalize (rungF k).toNat = r at *
  have cases : r = 0 ∨ r = 1 ∨ r = 2 ∨ r = 3 ∨ r = 4 ∨ r = 5 ∨ r = 6 ∨ r = 7 ∨ r = 8 ∨ r = 9 ∨ r = 10 ∨ r = 11 ∨ r = 12 ∨ r = 13 ∨ r = 14 ∨ r = 15 ∨ r = 16 ∨ r = 17 ∨ r = 18 ∨ r = 19 ∨ r = 20 ∨ r = 21 ∨ r = 22 ∨ r = 23 ∨ r = 24 ∨ r = 25 ∨ r = 26 ∨ r = 27 ∨ r = 28 := by omega
  rw [pw_two, pw_two, Int.fdiv_eq_ediv_of_nonneg _ (Int.pow_nonneg (by decide)), IntKind.wrap_i64]
  rcases cases with rfl | rfl | rfl | rfl | rfl | rfl | rfl | rfl | rfl | rfl | rfl | rfl | rfl | rfl | rfl | rfl | rfl | rfl | rfl | rfl | rfl | rfl | rfl | rfl | rfl | rfl | rfl | rfl | rfl <;> omega

end Go.Proofs.Ytllaijapijinoaa

namespace Go.Proofs.Ytllaijapijinoaa
open Go.Cw
set_option linter.unusedVariables false

def sizS (k : Int) (j : Nat) : St := ⟨[(0, i64 k), (3, i64 (pw j)), (4, dn j)], [], 0⟩
theorem pw_le {j : Nat} (h : j ≤ 28) : 1 ≤ pw j ∧ pw j ≤ 268435456 := by
  have cases : j = 0 ∨ j = 1 ∨ j = 2 ∨ j = 3 ∨ j = 4 ∨ j = 5 ∨ j = 6 ∨ j = 7 ∨ j = 8 ∨ j = 9 ∨ j = 10 ∨ j = 11 ∨ j = 12 ∨ j = 13 ∨ j = 14 ∨ j = 15 ∨ j = 16 ∨ j = 17 ∨ j = 18 ∨ j = 19 ∨ j = 20 ∨ j = 21 ∨ j = 22 ∨ j = 23 ∨ j = 24 ∨ j = 25 ∨ j = 26 ∨ j = 27 ∨ j = 28 := by omega
  rcases cases with rfl | rfl | rfl | rfl | rfl | rfl | rfl | rfl | rfl | rfl | rfl | rfl | rfl | rfl | rfl | rfl | rfl | rfl | rfl | rfl | rfl | rfl | rfl | rfl | rfl | rfl | rfl | rfl | rfl <;> exact ⟨by decide, by decide⟩
theorem size3_ret (k : Int) : Ret Try.prog 46 [] [i64 k] (i64 (pw (rungF k).toNat)) [] := by
  have hk := rungF_bd k
  refine ret_of Try.func46 rfl rfl rfl ?_
  refine ⟨Nat, sizS k, fun j => j ≤ (rungF k).toNat, fun j => (rungF k).toNat - j, 0, [], Nat.zero_le _, ⟨rfl, rfl, rfl, ⟨rfl, rfl, rfl, rfl, rfl, rfl, trivial⟩, trivial⟩, ?_⟩
  intro j hj
  have hj : j ≤ (rungF k).toNat := hj
  refine RC.use (rung3_ret k) rfl ?_
  refine BM.split (fun h => ?_) (fun h => ?_)
  · have h : decide ((j : Int) < rungF k) = true := h
    rw [decide_eq_true_eq] at h
    have hp := pw_le (show j ≤ 28 by omega)
    exact ⟨j + 1, [], (show j + 1 ≤ (rungF k).toNat by omega), (show (rungF k).toNat - (j + 1) < (rungF k).toNat - j by omega), ⟨rfl, rfl, rfl, ⟨rfl, rfl, congrArg (AV.int .i64) (show IntKind.wrap .i64 (2 * pw j) = pw (j + 1) by rw [pw, IntKind.wrap_i64]; omega), rfl, congrArg (AV.int .i64) (wrap_succ j (by omega)), rfl, trivial⟩, trivial⟩⟩
  · have h : decide ((j : Int) < rungF k) = false := h
    rw [decide_eq_false_iff_not] at h
    exact ⟨eq2 (i64 (pw j)) (by rw [show j = (rungF k).toNat by omega]) rfl, rfl, trivial⟩
theorem num10_ret (n : Int) (h : InI n) : Ret Try.prog 48 [] [i64 n] (qz n 1) [] := by
  refine ret_of Try.func48 rfl rfl rfl ?_
  refine RC.use (of_ret n h) rfl ?_
  refine RC.use (of_ret 1 ⟨by decide, by decide⟩) rfl ?_
  exact ⟨rfl, rfl, trivial⟩

end Go.Proofs.Ytllaijapijinoaa

namespace Go.Proofs.Ytllaijapijinoaa
open Go.Cw
set_option linter.unusedVariables false

/-- A part, as the document has it. -/
structure RV where
  fn : Int
  fd : Int
  tn : Int
  td : Int
  no : Bool
abbrev qcs (n d : Int) : List AV := [.bool (decide (n < 0)), dsl (dg n.natAbs), .bool (decide (d < 0)), dsl (dg d.natAbs)]
abbrev RV.cs (p : RV) : List AV := [.bool (decide (p.fn < 0)), dsl (dg p.fn.natAbs), .bool (decide (p.fd < 0)), dsl (dg p.fd.natAbs), .bool (decide (p.tn < 0)), dsl (dg p.tn.natAbs), .bool (decide (p.td < 0)), dsl (dg p.td.natAbs), .bool p.no]
structure RV.Ok (p : RV) : Prop where
  a : Bg 1000 p.fn
  b : Bg 1000 p.fd
  c : Bg 1000 p.tn
  d : Bg 1000 p.td
def keepP (p : RV) (fn tn d : Int) : RV :=
  { fn := if cmp3 (fn * p.fd) (p.fn * d) > 0 then fn else p.fn, fd := if cmp3 (fn * p.fd) (p.fn * d) > 0 then d else p.fd,
    tn := if cmp3 (tn * p.td) (p.tn * d) < 0 then tn else p.tn, td := if cmp3 (tn * p.td) (p.tn * d) < 0 then d else p.td, no := p.no }
def keepF (p : RV) (a b low high : Int) : RV :=
  if a = b then { p with no := p.no || (decide (2 * a < low) || decide (2 * a > high)) }
  else if 2 * (b - a) < 0 then keepP p (2 * a - high) (2 * a - low) (-(2 * (b - a)))
  else keepP p (low - 2 * a) (high - 2 * a) (2 * (b - a))
def keepS (p : RV) (fn fd tn td : Int) : St :=
  ⟨[(5, .ptr 0 0), (10, .ptr 1 0), (12, .ptr 2 0), (13, .ptr 3 0)],
   [(0, .cells 95 p.cs), (1, .cells 95 [.bool false, .nilsl, .bool false, .nilsl, .bool false, .nilsl, .bool false, .nilsl, .bool false]), (2, .cells 66 (qcs fn fd)), (3, .cells 66 (qcs tn td))], 4⟩
theorem of_eq {n n' : Int} (h : InI n) (e : n' = n) : Ret Try.prog 86 [] [i64 n'] (nz n) [] := by
  subst e; exact of_ret n' h
/-- Numbers that are far from any wrap. -/
def Mi (n : Int) : Prop := -1073741824 ≤ n ∧ n ≤ 1073741824
theorem Mi.i {n : Int} (h : Mi n) : InI n := ⟨by have := h.1; omega, by have := h.2; omega⟩
theorem w64 (n : Int) (h1 : -9223372036854775808 ≤ n) (h2 : n ≤ 9223372036854775807) : IntKind.wrap .i64 n = n := by rw [IntKind.wrap_i64]; omega
set_option maxRecDepth 100000 in
set_option maxHeartbeats 16000000 in
theorem keep_pos {p : RV} (hp : p.Ok) {a b low high : Int} (ha : Mi a) (hb : Mi b) (hl : Mi low) (hh : Mi high) (hab : a < b) :
    Ret Try.prog 47 [] [.ag p.cs, i64 a, i64 b, i64 low, i64 high] (.ag (keepF p a b low high).cs) [] := by
  obtain ⟨a1, a2⟩ := ha
  obtain ⟨b1, b2⟩ := hb
  obtain ⟨l1, l2⟩ := hl
  obtain ⟨h1, h2⟩ := hh
  have wa : IntKind.wrap .i64 (2 * a) = 2 * a := w64 _ (by omega) (by omega)
  have wd : IntKind.wrap .i64 (2 * IntKind.wrap .i64 (b - a)) = 2 * (b - a) := by rw [w64 (b - a) (by omega) (by omega), w64 _ (by omega) (by omega)]
  have wl : IntKind.wrap .i64 (low - IntKind.wrap .i64 (2 * a)) = low - 2 * a := by rw [wa, w64 _ (by omega) (by omega)]
  have wh : IntKind.wrap .i64 (high - IntKind.wrap .i64 (2 * a)) = high - 2 * a := by rw [wa, w64 _ (by omega) (by omega)]
  have wl' : IntKind.wrap .i64 (IntKind.wrap .i64 (2 * a) - low) = 2 * a - low := by rw [wa, w64 _ (by omega) (by omega)]
  have wh' : IntKind.wrap .i64 (IntKind.wrap .i64 (2 * a) - high) = 2 * a - high := by rw [wa, w64 _ (by omega) (by omega)]
  have wn : IntKind.wrap .i64 (0 - IntKind.wrap .i64 (2 * IntKind.wrap .i64 (b - a))) = -(2 * (b - a)) := by
    rw [wd, Int.zero_sub]
    exact w64 _ (by omega) (by omega)
  have gf : Bg 1000 (low - 2 * a) := (bg_int ⟨by omega, by omega⟩).le (by decide)
  have gt : Bg 1000 (high - 2 * a) := (bg_int ⟨by omega, by omega⟩).le (by decide)
  have gd : Bg 1000 (2 * (b - a)) := (bg_int ⟨by omega, by omega⟩).le (by decide)
  have c1 := qcmp_ret (low - 2 * a) (2 * (b - a)) p.fn p.fd gf gd hp.a hp.b
  have hk : keepF p a b low high = keepP p (low - 2 * a) (high - 2 * a) (2 * (b - a)) := by unfold keepF; rw [if_neg (by omega), if_neg (by omega)]
  refine ret_cut [6] Try.func47 rfl rfl rfl ?_
  refine BM.split (fun q => ?_) (fun _ => ?_)
  · have q : (a == b) = true := q
    have : a = b := by simpa using q
    omega
  refine RC.use (of_eq (n := low - 2 * a) ⟨by omega, by omega⟩ wl) rfl ?_
  refine RC.use (of_eq (n := 2 * (b - a)) ⟨by omega, by omega⟩ wd) rfl ?_
  refine RC.use (of_eq (n := high - 2 * a) ⟨by omega, by omega⟩ wh) rfl ?_
  refine RC.use (of_eq (n := 2 * (b - a)) ⟨by omega, by omega⟩ wd) rfl ?_
  refine BM.split (fun q => ?_) (fun _ => ?_)
  · have q : decide (IntKind.wrap .i64 (2 * IntKind.wrap .i64 (b - a)) < 0) = true := q
    rw [wd, decide_eq_true_eq] at q
    omega
  refine ⟨keepS p (low - 2 * a) (2 * (b - a)) (high - 2 * a) (2 * (b - a)), [(0, 0), (1, 1), (2, 2), (3, 3)], ⟨rfl, rfl, rfl, ⟨rfl, rfl, rfl, rfl, rfl, rfl, rfl, rfl, trivial⟩, ⟨rfl, rfl, rfl, rfl, rfl, rfl, rfl, rfl, trivial⟩⟩, ?_⟩
  refine RC.use c1 rfl ?_
  refine BM.split (fun k1 => ?_) (fun k1 => ?_)
  · have k1 : decide (cmp3 ((low - 2 * a) * p.fd) (p.fn * (2 * (b - a))) > 0) = true := k1
    have c2 := qcmp_ret (high - 2 * a) (2 * (b - a)) p.tn p.td gt gd hp.c hp.d
    refine RC.use c2 rfl ?_
    refine BM.split (fun k2 => ?_) (fun k2 => ?_)
    · have k2 : decide (cmp3 ((high - 2 * a) * p.td) (p.tn * (2 * (b - a))) < 0) = true := k2
      exact ⟨eq2 (.ag (qcs (low - 2 * a) (2 * (b - a)) ++ qcs (high - 2 * a) (2 * (b - a)) ++ [.bool p.no])) (by rw [hk]; unfold keepP; rw [if_pos (by simpa using k1), if_pos (by simpa using k1), if_pos (by simpa using k2), if_pos (by simpa using k2)]; rfl) rfl, rfl, trivial⟩
    · have k2 : decide (cmp3 ((high - 2 * a) * p.td) (p.tn * (2 * (b - a))) < 0) = false := k2
      exact ⟨eq2 (.ag (qcs (low - 2 * a) (2 * (b - a)) ++ qcs p.tn p.td ++ [.bool p.no])) (by rw [hk]; unfold keepP; rw [if_pos (by simpa using k1), if_pos (by simpa using k1), if_neg (by simpa using k2), if_neg (by simpa using k2)]; rfl) rfl, rfl, trivial⟩
  · have k1 : decide (cmp3 ((low - 2 * a) * p.fd) (p.fn * (2 * (b - a))) > 0) = false := k1
    have c2 := qcmp_ret (high - 2 * a) (2 * (b - a)) p.tn p.td gt gd hp.c hp.d
    refine RC.use c2 rfl ?_
    refine BM.split (fun k2 => ?_) (fun k2 => ?_)
    · have k2 : decide (cmp3 ((high - 2 * a) * p.td) (p.tn * (2 * (b - a))) < 0) = true := k2
      exact ⟨eq2 (.ag (qcs p.fn p.fd ++ qcs (high - 2 * a) (2 * (b - a)) ++ [.bool p.no])) (by rw [hk]; unfold keepP; rw [if_neg (by simpa using k1), if_neg (by simpa using k1), if_pos (by simpa using k2), if_pos (by simpa using k2)]; rfl) rfl, rfl, trivial⟩
    · have k2 : decide (cmp3 ((high - 2 * a) * p.td) (p.tn * (2 * (b - a))) < 0) = false := k2
      exact ⟨eq2 (.ag p.cs) (by rw [hk]; unfold keepP; rw [if_neg (by simpa using k1), if_neg (by simpa using k1), if_neg (by simpa using k2), if_neg (by simpa using k2)]) rfl, rfl, trivial⟩
set_option maxRecDepth 100000 in
set_option maxHeartbeats 16000000 in
theorem keep_neg {p : RV} (hp : p.Ok) {a b low high : Int} (ha : Mi a) (hb : Mi b) (hl : Mi low) (hh : Mi high) (hab : b < a) :
    Ret Try.prog 47 [] [.ag p.cs, i64 a, i64 b, i64 low, i64 high] (.ag (keepF p a b low high).cs) [] := by
  obtain ⟨a1, a2⟩ := ha
  obtain ⟨b1, b2⟩ := hb
  obtain ⟨l1, l2⟩ := hl
  obtain ⟨h1, h2⟩ := hh
  have wa : IntKind.wrap .i64 (2 * a) = 2 * a := w64 _ (by omega) (by omega)
  have wd : IntKind.wrap .i64 (2 * IntKind.wrap .i64 (b - a)) = 2 * (b - a) := by rw [w64 (b - a) (by omega) (by omega), w64 _ (by omega) (by omega)]
  have wl : IntKind.wrap .i64 (low - IntKind.wrap .i64 (2 * a)) = low - 2 * a := by rw [wa, w64 _ (by omega) (by omega)]
  have wh : IntKind.wrap .i64 (high - IntKind.wrap .i64 (2 * a)) = high - 2 * a := by rw [wa, w64 _ (by omega) (by omega)]
  have wl' : IntKind.wrap .i64 (IntKind.wrap .i64 (2 * a) - low) = 2 * a - low := by rw [wa, w64 _ (by omega) (by omega)]
  have wh' : IntKind.wrap .i64 (IntKind.wrap .i64 (2 * a) - high) = 2 * a - high := by rw [wa, w64 _ (by omega) (by omega)]
  have wn : IntKind.wrap .i64 (0 - IntKind.wrap .i64 (2 * IntKind.wrap .i64 (b - a))) = -(2 * (b - a)) := by
    rw [wd, Int.zero_sub]
    exact w64 _ (by omega) (by omega)
  have gf : Bg 1000 (2 * a - high) := (bg_int ⟨by omega, by omega⟩).le (by decide)
  have gt : Bg 1000 (2 * a - low) := (bg_int ⟨by omega, by omega⟩).le (by decide)
  have gd : Bg 1000 (-(2 * (b - a))) := (bg_int ⟨by omega, by omega⟩).le (by decide)
  have c1 := qcmp_ret (2 * a - high) (-(2 * (b - a))) p.fn p.fd gf gd hp.a hp.b
  have hk : keepF p a b low high = keepP p (2 * a - high) (2 * a - low) (-(2 * (b - a))) := by unfold keepF; rw [if_neg (by omega), if_pos (by omega)]
  refine ret_cut [6] Try.func47 rfl rfl rfl ?_
  refine BM.split (fun q => ?_) (fun _ => ?_)
  · have q : (a == b) = true := q
    have : a = b := by simpa using q
    omega
  refine RC.use (of_eq (n := low - 2 * a) ⟨by omega, by omega⟩ wl) rfl ?_
  refine RC.use (of_eq (n := 2 * (b - a)) ⟨by omega, by omega⟩ wd) rfl ?_
  refine RC.use (of_eq (n := high - 2 * a) ⟨by omega, by omega⟩ wh) rfl ?_
  refine RC.use (of_eq (n := 2 * (b - a)) ⟨by omega, by omega⟩ wd) rfl ?_
  refine BM.split (fun _ => ?_) (fun q => ?_)
  rotate_left
  · have q : decide (IntKind.wrap .i64 (2 * IntKind.wrap .i64 (b - a)) < 0) = false := q
    rw [wd, decide_eq_false_iff_not] at q
    omega
  refine RC.use (of_eq (n := 2 * a - high) ⟨by omega, by omega⟩ wh') rfl ?_
  refine RC.use (of_eq (n := -(2 * (b - a))) ⟨by omega, by omega⟩ wn) rfl ?_
  refine RC.use (of_eq (n := 2 * a - low) ⟨by omega, by omega⟩ wl') rfl ?_
  refine RC.use (of_eq (n := -(2 * (b - a))) ⟨by omega, by omega⟩ wn) rfl ?_
  refine ⟨keepS p (2 * a - high) (-(2 * (b - a))) (2 * a - low) (-(2 * (b - a))), [(0, 0), (1, 1), (2, 2), (3, 3)], ⟨rfl, rfl, rfl, ⟨rfl, rfl, rfl, rfl, rfl, rfl, rfl, rfl, trivial⟩, ⟨rfl, rfl, rfl, rfl, rfl, rfl, rfl, rfl, trivial⟩⟩, ?_⟩
  refine RC.use c1 rfl ?_
  refine BM.split (fun k1 => ?_) (fun k1 => ?_)
  · have k1 : decide (cmp3 ((2 * a - high) * p.fd) (p.fn * (-(2 * (b - a)))) > 0) = true := k1
    have c2 := qcmp_ret (2 * a - low) (-(2 * (b - a))) p.tn p.td gt gd hp.c hp.d
    refine RC.use c2 rfl ?_
    refine BM.split (fun k2 => ?_) (fun k2 => ?_)
    · have k2 : decide (cmp3 ((2 * a - low) * p.td) (p.tn * (-(2 * (b - a)))) < 0) = true := k2
      exact ⟨eq2 (.ag (qcs (2 * a - high) (-(2 * (b - a))) ++ qcs (2 * a - low) (-(2 * (b - a))) ++ [.bool p.no])) (by rw [hk]; unfold keepP; rw [if_pos (by simpa using k1), if_pos (by simpa using k1), if_pos (by simpa using k2), if_pos (by simpa using k2)]; rfl) rfl, rfl, trivial⟩
    · have k2 : decide (cmp3 ((2 * a - low) * p.td) (p.tn * (-(2 * (b - a)))) < 0) = false := k2
      exact ⟨eq2 (.ag (qcs (2 * a - high) (-(2 * (b - a))) ++ qcs p.tn p.td ++ [.bool p.no])) (by rw [hk]; unfold keepP; rw [if_pos (by simpa using k1), if_pos (by simpa using k1), if_neg (by simpa using k2), if_neg (by simpa using k2)]; rfl) rfl, rfl, trivial⟩
  · have k1 : decide (cmp3 ((2 * a - high) * p.fd) (p.fn * (-(2 * (b - a)))) > 0) = false := k1
    have c2 := qcmp_ret (2 * a - low) (-(2 * (b - a))) p.tn p.td gt gd hp.c hp.d
    refine RC.use c2 rfl ?_
    refine BM.split (fun k2 => ?_) (fun k2 => ?_)
    · have k2 : decide (cmp3 ((2 * a - low) * p.td) (p.tn * (-(2 * (b - a)))) < 0) = true := k2
      exact ⟨eq2 (.ag (qcs p.fn p.fd ++ qcs (2 * a - low) (-(2 * (b - a))) ++ [.bool p.no])) (by rw [hk]; unfold keepP; rw [if_neg (by simpa using k1), if_neg (by simpa using k1), if_pos (by simpa using k2), if_pos (by simpa using k2)]; rfl) rfl, rfl, trivial⟩
    · have k2 : decide (cmp3 ((2 * a - low) * p.td) (p.tn * (-(2 * (b - a)))) < 0) = false := k2
      exact ⟨eq2 (.ag p.cs) (by rw [hk]; unfold keepP; rw [if_neg (by simpa using k1), if_neg (by simpa using k1), if_neg (by simpa using k2), if_neg (by simpa using k2)]) rfl, rfl, trivial⟩

set_option maxRecDepth 100000 in
set_option maxHeartbeats 16000000 in
theorem keep_same {p : RV} {a low high : Int} (ha : Mi a) :
    Ret Try.prog 47 [] [.ag p.cs, i64 a, i64 a, i64 low, i64 high] (.ag (keepF p a a low high).cs) [] := by
  obtain ⟨a1, a2⟩ := ha
  have wa : IntKind.wrap .i64 (2 * a) = 2 * a := w64 _ (by omega) (by omega)
  have hk : keepF p a a low high = { p with no := p.no || (decide (2 * a < low) || decide (2 * a > high)) } := by unfold keepF; rw [if_pos rfl]
  refine ret_of Try.func47 rfl rfl rfl ?_
  refine BM.split (fun _ => ?_) (fun q => ?_)
  rotate_left
  · have q : (a == a) = false := q
    simp at q
  refine BM.split (fun k1 => ?_) (fun k1 => ?_)
  · have k1 : p.no = true := k1
    exact ⟨eq2 (.ag (qcs p.fn p.fd ++ qcs p.tn p.td ++ [.bool true])) (by rw [hk, k1, Bool.true_or]; rfl) rfl, rfl, trivial⟩
  · have k1 : p.no = false := k1
    refine BM.split (fun k2 => ?_) (fun k2 => ?_)
    · have k2 : decide (IntKind.wrap .i64 (2 * a) < low) = true := k2
      rw [wa] at k2
      exact ⟨eq2 (.ag (qcs p.fn p.fd ++ qcs p.tn p.td ++ [.bool true])) (by rw [hk, k1, k2, Bool.true_or, Bool.false_or]; rfl) rfl, rfl, trivial⟩
    · have k2 : decide (IntKind.wrap .i64 (2 * a) < low) = false := k2
      rw [wa] at k2
      exact ⟨eq2 (.ag (qcs p.fn p.fd ++ qcs p.tn p.td ++ [.bool (decide (IntKind.wrap .i64 (2 * a) > high))])) (by rw [hk, k1, k2, Bool.false_or, Bool.false_or, wa]; rfl) rfl, rfl, trivial⟩
theorem keep_ret {p : RV} (hp : p.Ok) {a b low high : Int} (ha : Mi a) (hb : Mi b) (hl : Mi low) (hh : Mi high) :
    Ret Try.prog 47 [] [.ag p.cs, i64 a, i64 b, i64 low, i64 high] (.ag (keepF p a b low high).cs) [] := by
  rcases Int.lt_trichotomy a b with h | h | h
  · exact keep_pos hp ha hb hl hh h
  · subst h; exact keep_same ha
  · exact keep_neg hp ha hb hl hh h

end Go.Proofs.Ytllaijapijinoaa

namespace Go.Proofs.Ytllaijapijinoaa
open Go.Cw
set_option linter.unusedVariables false
set_option linter.unusedSimpArgs false

abbrev rvA (p : RV) : AV := .ag p.cs
def rv0 : RV := ⟨0, 1, 1, 1, false⟩
def part1 (a b : Pt) (X far : Int) : RV := keepF rv0 a.x b.x (2 * X - far) (2 * X + far)
def partF (a b : Pt) (X Y far : Int) : RV := keepF (part1 a b X far) a.y b.y (2 * Y - far) (2 * Y + far)
/-- Where one begins is beyond where another one ends. -/
def overF (f t : RV) : Bool := decide (cmp3 (f.fn * t.td) (t.tn * f.fd) > 0)
def endF : List RV → Bool
  | [] => false
  | x :: r => (cmp3 (x.fn * 1) (0 * x.fd) == 0) && (cmp3 (((x :: r).getD r.length x).tn * 1) (1 * ((x :: r).getD r.length x).td) == 0)
def closeR (a b : Pt) (k far : Int) : List Pt → List RV → Bool
  | [], L => endF L
  | q :: V, L =>
    if (nearF q.x k && nearF q.y k) = false then false
    else if ((partF a b (cenF q.x k) (cenF q.y k) far).no || overF (partF a b (cenF q.x k) (cenF q.y k) far) (partF a b (cenF q.x k) (cenF q.y k) far)) = true then false
    else if L.any (fun l => overF l (partF a b (cenF q.x k) (cenF q.y k) far)) = true then false
    else closeR a b k far V (L ++ [partF a b (cenF q.x k) (cenF q.y k) far])
def closeRF (V : List Pt) (a b : Pt) (k far : Int) : Bool :=
  (k == rungF k) && (rt a && (rt b && (!decide (far < 0) && (!decide (far > 268435456) && (!((V.length : Int) == 0) && closeR a b k far V [])))))

theorem keepF_ok {p : RV} (hp : p.Ok) {a b low high : Int} (ha : Mi a) (hb : Mi b) (hl : Mi low) (hh : Mi high) : (keepF p a b low high).Ok := by
  obtain ⟨a1, a2⟩ := ha
  obtain ⟨b1, b2⟩ := hb
  obtain ⟨l1, l2⟩ := hl
  obtain ⟨h1, h2⟩ := hh
  have g : ∀ n : Int, -9223372036854775808 ≤ n → n ≤ 9223372036854775807 → Bg 1000 n := fun n q1 q2 => (bg_int ⟨by omega, by omega⟩).le (by decide)
  unfold keepF
  split
  · exact ⟨hp.a, hp.b, hp.c, hp.d⟩
  · split <;> unfold keepP <;> refine ⟨?_, ?_, ?_, ?_⟩ <;> dsimp only <;> split <;> first | exact hp.a | exact hp.b | exact hp.c | exact hp.d | exact g _ (by omega) (by omega)
theorem bgK (n : Int) (h : InI n) : Bg 1000 n := (bg_int h).le (by decide)
theorem rv0_ok : rv0.Ok := ⟨bgK 0 ⟨by decide, by decide⟩, bgK 1 ⟨by decide, by decide⟩, bgK 1 ⟨by decide, by decide⟩, bgK 1 ⟨by decide, by decide⟩⟩
theorem keep_of {p : RV} (hp : p.Ok) {a b low high l' h' : Int} (ha : Mi a) (hb : Mi b) (hl : Mi low) (hh : Mi high) (el : l' = low) (eh : h' = high) :
    Ret Try.prog 47 [] [.ag p.cs, i64 a, i64 b, i64 l', i64 h'] (.ag (keepF p a b low high).cs) [] := by
  subst el; subst eh; exact keep_ret hp ha hb hl hh
theorem rung3_of {k r : Int} (h : rungF k = r) : Ret Try.prog 44 [] [i64 k] (i64 r) [] := by
  subst h; exact rung3_ret k
theorem in3_of {x y k : Int} {t : Bool} (hx : InI x) (hy : InI y) (h : (nearF x k && nearF y k) = t) : Ret Try.prog 45 [] [pt x y, i64 k] (.bool t) [] := by
  subst h; rw [← near_eq x k hx, ← near_eq y k hy]; exact in3_ret x y k hx hy
theorem size3_of {k n : Int} (h : pw (rungF k).toNat = n) : Ret Try.prog 46 [] [i64 k] (i64 n) [] := by
  subst h; exact size3_ret k
theorem two_cen {x k n : Int} (h : pw (rungF k).toNat = n) (hx : nearF x k = true) : IntKind.wrap .i64 (IntKind.wrap .i64 (2 * n) * x) = 2 * cenF x k := by
  have hk := rungF_bd k
  have hp := pw_le (show (rungF k).toNat ≤ 28 by omega)
  obtain ⟨c1, c2⟩ := cen_bd hx
  have e : cenF x k = x * n := by
    unfold cenF
    rw [← h, pw_two, show min (rungF k).toNat (IntKind.bits .i64) = (rungF k).toNat from Nat.min_eq_left (by show (rungF k).toNat ≤ 64; omega)]
  rw [h] at hp
  rw [e] at c1 c2 ⊢
  rw [w64 (2 * n) (by omega) (by omega)]
  have : 2 * n * x = 2 * (x * n) := by rw [Int.mul_assoc, Int.mul_comm n x]
  rw [this, w64 _ (by omega) (by omega)]

def cS (V : List Pt) (D : List AV) (a b : Pt) (k far : Int) (i : Nat) (L : List RV) : St :=
  ⟨[(3, i64 k), (4, i64 far), (5, .ptr 0 0), (6, .ptr 1 0), (7, .ptr 2 0), (11, .osl 3), (12, dn i)],
    [(0, .cells 25 [.sl (some 2) (V.map pxv), .sl none D]), (1, .cells 27 [i64 a.x, i64 a.y]), (2, .cells 27 [i64 b.x, i64 b.y]), (3, .row 95 (some 9) (L.map rvA))], 4⟩
def cTc (V : List Pt) (D : List AV) (a b : Pt) (k far : Int) (i : Nat) (p : RV) (L : List RV) : St :=
  ⟨[(3, i64 k), (4, i64 far), (5, .ptr 0 0), (6, .ptr 1 0), (7, .ptr 2 0), (11, .osl 3), (12, dn i), (15, .ptr 4 0)],
    [(0, .cells 25 [.sl (some 2) (V.map pxv), .sl none D]), (1, .cells 27 [i64 a.x, i64 a.y]), (2, .cells 27 [i64 b.x, i64 b.y]), (3, .row 95 (some 9) (L.map rvA)), (4, .cells 95 p.cs)], 5⟩
def St.with (s : St) (t : Nat) (v : AV) : St := { s with env := s.env ++ [(t, v)] }

structure CI (a b : Pt) (k far : Int) (V : List Pt) (i : Nat) (L : List RV) : Prop where
  le : i ≤ V.length
  len : L.length = i
  ok : ∀ p ∈ L, p.Ok
  eq : closeR a b k far V [] = closeR a b k far (V.drop i) L
theorem rv_get {L : List RV} {j : Nat} {e : RV} (h : L[j]? = some e) : (L.map rvA)[j]? = some (rvA e) := by rw [List.getElem?_map, h]; rfl
theorem any_hit {L : List RV} {p e : RV} {j : Nat} (h : L[j]? = some e) (ho : overF e p = true) : L.any (fun l => overF l p) = true := List.any_eq_true.2 ⟨e, List.mem_of_getElem? h, ho⟩
theorem any_all {L : List RV} {p : RV} (h : ∀ (m : Nat) e, m < L.length → L[m]? = some e → overF e p = false) : L.any (fun l => overF l p) = false := by
  rw [List.any_eq_false]
  intro e he
  obtain ⟨m, hm⟩ := List.getElem?_of_mem he
  rw [h m e (List.getElem?_eq_some_iff.1 hm).1 hm]
  decide

end Go.Proofs.Ytllaijapijinoaa

namespace Go.Proofs.Ytllaijapijinoaa
open Go.Cw
set_option linter.unusedVariables false
set_option linter.unusedSimpArgs false

set_option maxRecDepth 100000 in
set_option maxHeartbeats 64000000 in
theorem closeR_loop {V : List Pt} (D : List AV) {a b : Pt} {k far : Int} (hV : V.length ≤ 1000000) (hVI : ∀ q ∈ V, InI q.x ∧ InI q.y) (hne : ((V.length : Int) == 0) = false) (hk : (k == rungF k) = true) (ra : rt a = true) (rb : rt b = true)
    (f0 : decide (far < 0) = false) (f1 : decide (far > 268435456) = false) :
    Ret Try.prog 15 [] [.ag [.sl (some 2) (V.map pxv), .sl none D], pt a.x a.y, pt b.x b.y, i64 k, i64 far] (.bool (closeR a b k far V [])) [] := by
  have g0 : 0 ≤ far := by simpa using f0
  have g1 : far ≤ 268435456 := by simpa using f1
  have hk1 := rungF_bd k
  obtain ⟨⟨xa1, xa2⟩, ya1, ya2⟩ := (rt_iff a).1 ra
  obtain ⟨⟨xb1, xb2⟩, yb1, yb2⟩ := (rt_iff b).1 rb
  refine ret_tree (.seq .fin (.seq .fin (.seq .fin (.nil 11 95 (some 9) (.seq (.seq .fin (.block (.loop (.seq .fin (.here (.seq (.block (.seq .fin (.here (.seq .fin (.seq .fin (.here (.seq .fin (.here (.seq .fin (.here .fin)))))))))) .fin)))))) .fin))))) Try.func15 rfl rfl rfl ?_
  refine RC.use (rung3_ret k) rfl ?_
  refine BM.split (fun q => ?_) (fun _ => ?_)
  · have q : (!(k == rungF k)) = true := q
    rw [hk] at q
    cases q
  refine RC.use (refRight_of ra) rfl ?_
  refine RC.use (refRight_of rb) rfl ?_
  refine BM.split (fun q => ?_) (fun _ => ?_)
  · exact absurd (q.symm.trans f0) (by decide)
  refine BM.split (fun q => ?_) (fun _ => ?_)
  · exact absurd (q.symm.trans f1) (by decide)
  refine BM.split (fun q => ?_) (fun _ => ?_)
  · have q : (((V.map pxv).length : Int) == 0) = true := q
    rw [List.length_map] at q
    exact absurd (q.symm.trans hne) (by decide)
  refine ⟨Nat × List RV, fun x => cS V D a b k far x.1 x.2, fun x => CI a b k far V x.1 x.2, fun x => V.length - x.1, (0, []), [(0, 0), (1, 1), (2, 2), (3, 3)], ⟨Nat.zero_le _, rfl, (fun p hp => by cases hp), rfl⟩,
    ⟨rfl, rfl, rfl, ⟨rfl, rfl, rfl, rfl, rfl, rfl, rfl, rfl, rfl, rfl, rfl, rfl, rfl, rfl, trivial⟩, ⟨rfl, rfl, rfl, rfl, rfl, rfl, rfl, rfl, trivial⟩⟩, ?_⟩
  intro x hI
  obtain ⟨i, L⟩ := x
  have hI : CI a b k far V i L := hI
  have hil := hI.le
  have hLl := hI.len
  refine BM.split (fun h0 => ?_) (fun h0 => ?_)
  · have h0 : (decide ((↑i : Int) < (↑(List.map pxv V).length : Int))) = true := h0
    have g0 : (↑i : Int) < (↑(List.map pxv V).length : Int) := of_decide_eq_true h0
    have hj : i < V.length := by simp at g0; omega
    have hcl : closeR a b k far V [] = closeR a b k far (V[i] :: V.drop (i + 1)) L := by rw [hI.eq, List.drop_eq_getElem_cons hj]
    have hqI := hVI V[i] (List.getElem_mem hj)
    have he1 : V[(↑i : Int).toNat]? = some V[i] := List.getElem?_eq_getElem hj
    generalize V[i] = q at *
    obtain ⟨hq1, hq2⟩ := hqI
    rw [closeR] at hcl
    have hw : (List.map pxv V)[(↑i : Int).toNat]? = some (pxv q) := by rw [List.getElem?_map, he1]; rfl
    refine ⟨cS V D a b k far i L, [(0, 0), (1, 1), (2, 2), (3, 3)], ⟨rfl, rfl, rfl, ⟨rfl, rfl, rfl, rfl, rfl, rfl, rfl, rfl, rfl, rfl, rfl, rfl, rfl, rfl, trivial⟩, ⟨rfl, rfl, rfl, rfl, rfl, rfl, rfl, rfl, trivial⟩⟩, ?_⟩
    refine BM.yes h0 ?_
    refine WE.intro hw ?_
    cases hn : (nearF q.x k && nearF q.y k)
    · refine RC.use (in3_of hq1 hq2 hn) rfl ?_
      exact ⟨eq2 (.bool false) (by rw [hcl, hn, if_pos rfl]) rfl, rfl, trivial⟩
    refine RC.use (in3_of hq1 hq2 hn) rfl ?_
    rw [hn, if_neg (by decide)] at hcl
    have hn2 : nearF q.x k = true ∧ nearF q.y k = true := by simpa using hn
    generalize hsz : pw (rungF k).toNat = n at *
    have csz := size3_of hsz
    obtain ⟨cx1, cx2⟩ := cen_bd hn2.1
    obtain ⟨cy1, cy2⟩ := cen_bd hn2.2
    have tx := two_cen hsz hn2.1
    have ty := two_cen hsz hn2.2
    have ok1 : (part1 a b (cenF q.x k) far).Ok := keepF_ok rv0_ok ⟨by omega, by omega⟩ ⟨by omega, by omega⟩ ⟨by omega, by omega⟩ ⟨by omega, by omega⟩
    have ok2 : (partF a b (cenF q.x k) (cenF q.y k) far).Ok := keepF_ok ok1 ⟨by omega, by omega⟩ ⟨by omega, by omega⟩ ⟨by omega, by omega⟩ ⟨by omega, by omega⟩
    have c1 : Ret Try.prog 47 [] [.ag rv0.cs, i64 a.x, i64 b.x, i64 (IntKind.wrap .i64 (2 * cenF q.x k - far)), i64 (IntKind.wrap .i64 (2 * cenF q.x k + far))] (.ag (part1 a b (cenF q.x k) far).cs) [] :=
      keep_of rv0_ok ⟨by omega, by omega⟩ ⟨by omega, by omega⟩ ⟨by omega, by omega⟩ ⟨by omega, by omega⟩ (w64 _ (by omega) (by omega)) (w64 _ (by omega) (by omega))
    have c2 : Ret Try.prog 47 [] [.ag (part1 a b (cenF q.x k) far).cs, i64 a.y, i64 b.y, i64 (IntKind.wrap .i64 (2 * cenF q.y k - far)), i64 (IntKind.wrap .i64 (2 * cenF q.y k + far))] (.ag (partF a b (cenF q.x k) (cenF q.y k) far).cs) [] :=
      keep_of ok1 ⟨by omega, by omega⟩ ⟨by omega, by omega⟩ ⟨by omega, by omega⟩ ⟨by omega, by omega⟩ (w64 _ (by omega) (by omega)) (w64 _ (by omega) (by omega))
    generalize partF a b (cenF q.x k) (cenF q.y k) far = p at *
    generalize part1 a b (cenF q.x k) far = p1 at *
    refine ⟨cS V D a b k far i L, [(0, 0), (1, 1), (2, 2), (3, 3)], ⟨rfl, rfl, rfl, ⟨rfl, rfl, rfl, rfl, rfl, rfl, rfl, rfl, rfl, rfl, rfl, rfl, rfl, rfl, trivial⟩, ⟨rfl, rfl, rfl, rfl, rfl, rfl, rfl, rfl, trivial⟩⟩, ?_⟩
    refine RC.use csz rfl ?_
    refine BM.yes h0 ?_
    refine WE.intro hw ?_
    refine CL.yes (by kernel_rfl) ?_
    refine RC.use csz rfl ?_
    refine BM.yes h0 ?_
    refine WE.intro hw ?_
    refine CL.yes (by kernel_rfl) ?_
    refine ⟨⟨[(3, i64 k), (4, i64 far), (5, .ptr 0 0), (6, .ptr 1 0), (7, .ptr 2 0), (11, .osl 3), (12, dn i), (13, i64 (2 * cenF q.x k)), (14, i64 (2 * cenF q.y k))], (cS V D a b k far i L).blks, 4⟩,
      [(0, 0), (1, 1), (2, 2), (3, 3)], ⟨rfl, rfl, rfl, ⟨rfl, rfl, rfl, rfl, rfl, rfl, rfl, rfl, rfl, rfl, rfl, rfl, rfl, rfl, congrArg (AV.int .i64) tx, rfl, congrArg (AV.int .i64) ty, rfl, trivial⟩, ⟨rfl, rfl, rfl, rfl, rfl, rfl, rfl, rfl, trivial⟩⟩, ?_⟩
    refine RC.use (num10_ret 0 ⟨by decide, by decide⟩) rfl ?_
    refine RC.use (num10_ret 1 ⟨by decide, by decide⟩) rfl ?_
    refine RC.use c1 rfl ?_
    refine CL.yes (by kernel_rfl) ?_
    refine ⟨⟨[(3, i64 k), (4, i64 far), (5, .ptr 0 0), (6, .ptr 1 0), (7, .ptr 2 0), (11, .osl 3), (12, dn i), (14, i64 (2 * cenF q.y k)), (15, .ptr 4 0)], (4, .cells 95 p1.cs) :: (cS V D a b k far i L).blks, 5⟩,
      [(0, 0), (1, 1), (2, 2), (3, 3), (4, 4)], ⟨rfl, rfl, rfl, ⟨rfl, rfl, rfl, rfl, rfl, rfl, rfl, rfl, rfl, rfl, rfl, rfl, rfl, rfl, rfl, rfl, rfl, rfl, trivial⟩, ⟨rfl, rfl, rfl, rfl, rfl, rfl, rfl, rfl, rfl, rfl, trivial⟩⟩, ?_⟩
    refine RC.use c2 rfl ?_
    refine ⟨cTc V D a b k far i p L, [(0, 0), (1, 1), (2, 2), (3, 3), (4, 4)], ⟨rfl, rfl, rfl, ⟨rfl, rfl, rfl, rfl, rfl, rfl, rfl, rfl, rfl, rfl, rfl, rfl, rfl, rfl, rfl, rfl, trivial⟩, ⟨rfl, rfl, rfl, rfl, rfl, rfl, rfl, rfl, rfl, rfl, trivial⟩⟩, ?_⟩
    clear c1 c2 csz tx ty
    refine BM.split (fun h1 => ?_) (fun h1 => ?_)
    · have h1 : (p.no) = true := h1
      exact ⟨eq2 (AV.bool false) (by rw [hcl, h1, Bool.true_or, if_pos rfl]) rfl, rfl, trivial⟩
    have h1 : (p.no) = false := h1
    rw [h1, Bool.false_or] at hcl
    refine RC.use (qcmp_ret p.fn p.fd p.tn p.td ok2.a ok2.b ok2.c ok2.d) rfl ?_
    refine BM.split (fun h2 => ?_) (fun h2 => ?_)
    · have h2 : overF p p = true := h2
      exact ⟨eq2 (AV.bool false) (by rw [hcl, h2, if_pos rfl]) rfl, rfl, trivial⟩
    have h2 : overF p p = false := h2
    rw [h2, if_neg (by decide)] at hcl
    refine ⟨Nat, fun j => St.with (cTc V D a b k far i p L) 16 (dn j), fun j => j ≤ L.length ∧ ∀ (m : Nat) e, m < j → L[m]? = some e → overF e p = false, fun j => L.length - j, 0, [(0, 0), (1, 1), (2, 2), (3, 3), (4, 4)], ⟨Nat.zero_le _, fun m e hm => absurd hm (Nat.not_lt_zero m)⟩, ⟨rfl, rfl, rfl, ⟨rfl, rfl, rfl, rfl, rfl, rfl, rfl, rfl, rfl, rfl, rfl, rfl, rfl, rfl, rfl, rfl, rfl, rfl, trivial⟩, ⟨rfl, rfl, rfl, rfl, rfl, rfl, rfl, rfl, rfl, rfl, trivial⟩⟩, ?_⟩
    intro j hJ
    obtain ⟨hJ1, hJ2⟩ : j ≤ L.length ∧ ∀ (m : Nat) e, m < j → L[m]? = some e → overF e p = false := hJ
    refine BM.split (fun h3 => ?_) (fun h3 => ?_)
    · have h3 : (decide ((↑j : Int) < (↑(List.map rvA L).length : Int))) = true := h3
      have g3 : (↑j : Int) < (↑(List.map rvA L).length : Int) := of_decide_eq_true h3
      have hjl : j < L.length := by simp at g3; omega
      refine BM.yes h3 ?_
      have he0 : L[j]? = some L[j] := List.getElem?_eq_getElem hjl
      have heo : (L[j]).Ok := hI.ok _ (List.getElem_mem hjl)
      generalize L[j] = e at *
      refine WE.intro (rv_get he0) ?_
      refine RC.use (qcmp_ret e.fn e.fd p.tn p.td heo.a heo.b ok2.c ok2.d) rfl ?_
      refine CL.yes (by kernel_rfl) ?_
      refine BM.split (fun k3 => ?_) (fun k3 => ?_)
      · have k3 : overF e p = true := k3
        exact ⟨eq2 (.bool false) (by rw [hcl, any_hit he0 k3, if_pos rfl]) rfl, rfl, trivial⟩
      · have k3 : overF e p = false := k3
        exact ⟨j + 1, [(0, 0), (1, 1), (2, 2), (3, 3), (4, 4)], ⟨hjl, fun m e' hm he' => by
          rcases Nat.lt_or_ge m j with g | g
          · exact hJ2 m e' g he'
          · have : m = j := by omega
            subst this
            rw [he0] at he'
            cases he'
            exact k3⟩, (show L.length - (j + 1) < L.length - j by omega), ⟨rfl, rfl, rfl, ⟨rfl, rfl, rfl, rfl, rfl, rfl, rfl, rfl, rfl, rfl, rfl, rfl, rfl, rfl, rfl, rfl, congrArg (AV.int .i64) (succ_wrap j (by omega)), rfl, trivial⟩, ⟨rfl, rfl, rfl, rfl, rfl, rfl, rfl, rfl, rfl, rfl, trivial⟩⟩⟩
    have h3 : (decide ((↑j : Int) < (↑(List.map rvA L).length : Int))) = false := h3
    have g3 : ¬ (↑j : Int) < (↑(List.map rvA L).length : Int) := of_decide_eq_false h3
    simp only [List.length_map] at g3
    have hany : L.any (fun l => overF l p) = false := any_all fun m e hm he => hJ2 m e (by omega) he
    rw [hany, if_neg (by decide)] at hcl
    refine ⟨(show ((L.map rvA).length + 1) * 136 ≤ 140737488355328 by rw [List.length_map]; omega), (show (L.map rvA).length + 1 ≤ 140737488355328 by rw [List.length_map]; omega), .inr rfl, ?_⟩
    exact ⟨(i + 1, L ++ [p]), [(0, 0), (1, 1), (2, 2), (3, 6)], ⟨hj, by rw [List.length_append, hLl]; rfl, fun e he => by rcases List.mem_append.1 he with h | h; exact hI.ok e h; simp at h; subst h; exact ok2, hcl⟩, (show V.length - (i + 1) < V.length - i by omega), ⟨rfl, rfl, rfl, ⟨rfl, rfl, rfl, rfl, rfl, rfl, rfl, rfl, rfl, rfl, rfl, rfl, congrArg (AV.int .i64) (succ_wrap i (by omega)), rfl, trivial⟩, ⟨rfl, rfl, rfl, rfl, rfl, rfl, congrArg (ABlk.row 95 (some 9)) (show (L.map rvA) ++ [rvA p] = (L ++ [p]).map rvA by rw [List.map_append]; rfl), rfl, trivial⟩⟩⟩
  · have h0 : (decide ((↑i : Int) < (↑(List.map pxv V).length : Int))) = false := h0
    have g0 : ¬(↑i : Int) < (↑(List.map pxv V).length : Int) := of_decide_eq_false h0
    simp only [List.length_map] at g0
    have hVn : V.length ≠ 0 := by simpa using hne
    match L, hLl, hI with
    | [], hLl, hI => simp at hLl; omega
    | y :: r, hLl, hI =>
      have hyo : y.Ok := hI.ok y (by simp)
      have hlast : (y :: r)[r.length]? = some ((y :: r).getD r.length y) := by rw [List.getD_eq_getElem?_getD]; cases h : (y :: r)[r.length]? with | none => simp at h | some z => rfl
      have hzo : ((y :: r).getD r.length y).Ok := hI.ok _ (List.mem_of_getElem? hlast)
      have heq : closeR a b k far V [] = endF (y :: r) := by rw [hI.eq, List.drop_eq_nil_of_le (by omega)]; rfl
      have hw : IntKind.wrap .i64 ((((y :: r).map rvA).length : Int) - 1) = (r.length : Int) := by rw [List.length_map, List.length_cons, w64 _ (by simp at hLl; omega) (by simp at hLl; omega)]; omega
      have hg1 : ((y :: r).map rvA)[(IntKind.wrap .i64 ((((y :: r).map rvA).length : Int) - 1)).toNat]? = some (rvA ((y :: r).getD r.length y)) := by rw [hw, Int.toNat_natCast]; exact rv_get hlast
      have hb : (true && decide (0 ≤ IntKind.i64.wrap ((↑(List.map rvA (y :: r)).length : Int) - 1)) && decide (IntKind.i64.wrap ((↑(List.map rvA (y :: r)).length : Int) - 1) < (↑(List.map rvA (y :: r)).length : Int))) = true := by rw [hw]; simp; omega
      have heq : closeR a b k far V [] = ((cmp3 (y.fn * 1) (0 * y.fd) == 0) && (cmp3 (((y :: r).getD r.length y).tn * 1) (1 * ((y :: r).getD r.length y).td) == 0)) := heq
      generalize (y :: r).getD r.length y = z at *
      refine BM.yes (show (true && decide (0 ≤ (0 : Int)) && decide ((0 : Int) < (↑(List.map rvA (y :: r)).length : Int))) = true from by simp) ?_
      refine RC.use (num10_ret 0 ⟨by decide, by decide⟩) rfl ?_
      refine RC.use (qcmp_ret y.fn y.fd 0 1 hyo.a hyo.b rv0_ok.a rv0_ok.b) rfl ?_
      refine BM.split (fun h4 => ?_) (fun h4 => ?_)
      · have h4 : (cmp3 (y.fn * 1) (0 * y.fd) == 0) = true := h4
        refine BM.yes hb ?_
        refine WE.intro hg1 ?_
        refine RC.use (num10_ret 1 ⟨by decide, by decide⟩) rfl ?_
        refine RC.use (qcmp_ret z.tn z.td 1 1 hzo.c hzo.d rv0_ok.c rv0_ok.d) rfl ?_
        refine CL.yes (by kernel_rfl) ?_
        exact ⟨eq2 (AV.bool (cmp3 (z.tn * 1) (1 * z.td) == 0)) (by rw [heq, h4, Bool.true_and]) rfl, rfl, trivial⟩
      · have h4 : (cmp3 (y.fn * 1) (0 * y.fd) == 0) = false := h4
        refine CL.yes (by kernel_rfl) ?_
        exact ⟨eq2 (AV.bool false) (by rw [heq, h4, Bool.false_and]) rfl, rfl, trivial⟩

end Go.Proofs.Ytllaijapijinoaa

namespace Go.Proofs.Ytllaijapijinoaa
open Go.Cw
set_option linter.unusedVariables false

set_option maxRecDepth 100000 in
set_option maxHeartbeats 16000000 in
theorem closeRF_ret (V : List Pt) (D : List AV) (a b : Pt) (k far : Int) (hV : V.length ≤ 1000000) (hVI : ∀ q ∈ V, InI q.x ∧ InI q.y) :
    Ret Try.prog 15 [] [.ag [.sl (some 2) (V.map pxv), .sl none D], pt a.x a.y, pt b.x b.y, i64 k, i64 far] (.bool (closeRF V a b k far)) [] := by
  cases h1 : (k == rungF k)
  · rw [show closeRF V a b k far = false by unfold closeRF; rw [h1]; rfl]
    refine ret_of Try.func15 rfl rfl rfl ?_
    refine RC.use (rung3_ret k) rfl ?_
    refine BM.yes (show (!(k == rungF k)) = true by rw [h1]; rfl) ?_
    exact ⟨rfl, rfl, trivial⟩
  have h1' : (!(k == rungF k)) = false := by rw [h1]; rfl
  cases ra : rt a
  · rw [show closeRF V a b k far = false by unfold closeRF; rw [h1, ra]; rfl]
    refine ret_of Try.func15 rfl rfl rfl ?_
    refine RC.use (rung3_ret k) rfl ?_
    refine BM.no h1' ?_
    refine RC.use (refRight_of ra) rfl ?_
    exact ⟨rfl, rfl, trivial⟩
  cases rb : rt b
  · rw [show closeRF V a b k far = false by unfold closeRF; rw [h1, ra, rb]; rfl]
    refine ret_of Try.func15 rfl rfl rfl ?_
    refine RC.use (rung3_ret k) rfl ?_
    refine BM.no h1' ?_
    refine RC.use (refRight_of ra) rfl ?_
    refine RC.use (refRight_of rb) rfl ?_
    exact ⟨rfl, rfl, trivial⟩
  cases f0 : decide (far < 0)
  rotate_left
  · rw [show closeRF V a b k far = false by unfold closeRF; rw [h1, ra, rb, f0]; rfl]
    refine ret_of Try.func15 rfl rfl rfl ?_
    refine RC.use (rung3_ret k) rfl ?_
    refine BM.no h1' ?_
    refine RC.use (refRight_of ra) rfl ?_
    refine RC.use (refRight_of rb) rfl ?_
    refine BM.yes f0 ?_
    exact ⟨rfl, rfl, trivial⟩
  cases f1 : decide (far > 268435456)
  rotate_left
  · rw [show closeRF V a b k far = false by unfold closeRF; rw [h1, ra, rb, f0, f1]; rfl]
    refine ret_of Try.func15 rfl rfl rfl ?_
    refine RC.use (rung3_ret k) rfl ?_
    refine BM.no h1' ?_
    refine RC.use (refRight_of ra) rfl ?_
    refine RC.use (refRight_of rb) rfl ?_
    refine BM.no f0 ?_
    refine BM.yes f1 ?_
    exact ⟨rfl, rfl, trivial⟩
  cases hne : ((V.length : Int) == 0)
  rotate_left
  · rw [show closeRF V a b k far = false by unfold closeRF; rw [h1, ra, rb, f0, f1, hne]; rfl]
    refine ret_of Try.func15 rfl rfl rfl ?_
    refine RC.use (rung3_ret k) rfl ?_
    refine BM.no h1' ?_
    refine RC.use (refRight_of ra) rfl ?_
    refine RC.use (refRight_of rb) rfl ?_
    refine BM.no f0 ?_
    refine BM.no f1 ?_
    refine BM.yes (show (((V.map pxv).length : Int) == 0) = true by rw [List.length_map]; exact hne) ?_
    exact ⟨rfl, rfl, trivial⟩
  rw [show closeRF V a b k far = closeR a b k far V [] by unfold closeRF; rw [h1, ra, rb, f0, f1, hne]; rfl]
  exact closeR_loop D hV hVI hne h1 ra rb f0 f1

end Go.Proofs.Ytllaijapijinoaa

namespace Go.Proofs.Ytllaijapijinoaa
set_option linter.unusedVariables false

/-- From one place to the next one that is not behind it: no place is behind. -/
theorem tr_le {a b c d m e : Int} (hd : 0 < d) (hb : 0 ≤ b) (he : 0 ≤ e) (h1 : a * d ≤ c * b) (h2 : c * e ≤ m * d) : a * e ≤ m * b := by
  have q1 := Int.mul_le_mul_of_nonneg_right h1 he
  have q2 := Int.mul_le_mul_of_nonneg_right h2 hb
  have q3 : a * e * d ≤ m * b * d := by
    rw [show a * e * d = a * d * e by rw [Int.mul_assoc, Int.mul_assoc, Int.mul_comm e d]]
    rw [show m * b * d = m * d * b by rw [Int.mul_assoc, Int.mul_assoc, Int.mul_comm b d]]
    rw [show c * b * e = c * e * b by rw [Int.mul_assoc, Int.mul_assoc, Int.mul_comm b e]] at q1
    omega
  exact Int.le_of_mul_le_mul_right q3 hd
/-- A part of a segment is these places: n over e. -/
structure PV.Spec (p : PV) (S : Int → Int → Prop) : Prop where
  fd : 0 < p.fd
  td : 0 < p.td
  iff : ∀ m e, 0 < e → (S m e ↔ p.no = false ∧ p.fn * e ≤ m * p.fd ∧ m * p.td ≤ p.tn * e)
theorem narrow_spec {p : PV} {S : Int → Int → Prop} (h : p.Spec S) (aw b : Int) : (narrowF p aw b).Spec (fun m e => S m e ∧ aw * e ≤ m * b) := by
  obtain ⟨hf, ht, hi⟩ := h
  unfold narrowF
  by_cases h0 : b = 0
  · rw [if_pos h0]
    refine ⟨hf, ht, fun m e he => ?_⟩
    rw [hi m e he]
    subst h0
    have : aw * e ≤ m * 0 ↔ aw ≤ 0 := by
      rw [Int.mul_zero]
      constructor
      · intro q
        rcases Int.lt_or_le 0 aw with w | w
        · have := Int.mul_pos w he; omega
        · exact w
      · intro q
        have := Int.mul_le_mul_of_nonneg_right q (show 0 ≤ e by omega)
        omega
    rw [this]
    simp only [Bool.or_eq_false_iff, decide_eq_false_iff_not]
    constructor
    · rintro ⟨⟨a, b, c⟩, d⟩; exact ⟨⟨a, by omega⟩, b, c⟩
    · rintro ⟨⟨a, b⟩, c, d⟩; exact ⟨⟨a, c, d⟩, by omega⟩
  rw [if_neg h0]
  by_cases h1 : b > 0 ∧ lessF p.fn p.fd aw b = true
  · rw [if_pos h1]
    obtain ⟨hb, hl⟩ := h1
    have hl : p.fn * b < aw * p.fd := of_decide_eq_true hl
    refine ⟨hb, ht, fun m e he => ?_⟩
    rw [hi m e he]
    constructor
    · rintro ⟨⟨a, b, c⟩, d⟩; exact ⟨a, d, c⟩
    · rintro ⟨a, d, c⟩; exact ⟨⟨a, tr_le hb (by omega) (by omega) (Int.le_of_lt hl) d, c⟩, d⟩
  rw [if_neg h1]
  by_cases h2 : b < 0 ∧ lessF (-aw) (-b) p.tn p.td = true
  · rw [if_pos h2]
    obtain ⟨hb, hl⟩ := h2
    have hl : -aw * p.td < p.tn * -b := of_decide_eq_true hl
    refine ⟨hf, (show 0 < -b by omega), fun m e he => ?_⟩
    rw [hi m e he]
    have k : aw * e ≤ m * b ↔ m * -b ≤ -aw * e := by rw [Int.mul_neg, Int.neg_mul]; omega
    rw [k]
    constructor
    · rintro ⟨⟨a, b, c⟩, d⟩; exact ⟨a, b, d⟩
    · rintro ⟨a, c, d⟩
      refine ⟨⟨a, c, ?_⟩, d⟩
      have := tr_le (a := m) (b := e) (c := -aw) (d := -b) (m := p.tn) (e := p.td) (by omega) (by omega) (by omega) d (Int.le_of_lt hl)
      exact this
  rw [if_neg h2]
  refine ⟨hf, ht, fun m e he => ?_⟩
  rw [hi m e he]
  constructor
  · rintro ⟨a, b⟩; exact a
  · rintro ⟨a, c, d⟩
    refine ⟨⟨a, c, d⟩, ?_⟩
    rcases Int.lt_or_gt_of_ne h0 with q | q
    · have hl : ¬ (-aw * p.td < p.tn * -b) := fun w => h2 ⟨q, decide_eq_true w⟩
      have := tr_le (a := m) (b := e) (c := p.tn) (d := p.td) (m := -aw) (e := -b) ht (by omega) (by omega) d (by omega)
      rw [Int.mul_neg, Int.neg_mul] at this
      omega
    · have hl : ¬ (p.fn * b < aw * p.fd) := fun w => h1 ⟨q, decide_eq_true w⟩
      exact tr_le (a := aw) (b := b) (c := p.fn) (d := p.fd) (m := m) (e := e) hf (by omega) (by omega) (by omega) c
/-- These places of a segment are not far from a center. -/
def Mem (a b : Pt) (cx cy far m e : Int) : Prop :=
  (0 ≤ m ∧ m ≤ e) ∧ ((2 * cx - far - 2 * a.x) * e ≤ m * (2 * (b.x - a.x)) ∧ m * (2 * (b.x - a.x)) ≤ (2 * cx + far - 2 * a.x) * e) ∧
    ((2 * cy - far - 2 * a.y) * e ≤ m * (2 * (b.y - a.y)) ∧ m * (2 * (b.y - a.y)) ≤ (2 * cy + far - 2 * a.y) * e)
theorem near_spec (a b : Pt) (cx cy far : Int) : (nearPV a b cx cy far).Spec (Mem a b cx cy far) ∧ ((nearPV a b cx cy far).no = false → (nearPV a b cx cy far).fn * (nearPV a b cx cy far).td ≤ (nearPV a b cx cy far).tn * (nearPV a b cx cy far).fd) := by
  have s0 : pv0.Spec (fun m e => 0 ≤ m ∧ m ≤ e) := ⟨by decide, by decide, fun m e he => by
    show _ ↔ false = false ∧ 0 * e ≤ m * 1 ∧ m * 1 ≤ 1 * e
    constructor
    · rintro ⟨a, b⟩; exact ⟨rfl, by omega, by omega⟩
    · rintro ⟨_, a, b⟩; exact ⟨by omega, by omega⟩⟩
  have s4 := narrow_spec (narrow_spec (narrow_spec (narrow_spec s0 (2 * cx - far - 2 * a.x) (2 * (b.x - a.x))) (2 * cy - far - 2 * a.y) (2 * (b.y - a.y))) (-2 * cx - far - -2 * a.x) (-(2 * (b.x - a.x)))) (-2 * cy - far - -2 * a.y) (-(2 * (b.y - a.y)))
  have s4 : (near4 a b cx cy far).Spec _ := s4
  refine ⟨⟨s4.fd, s4.td, fun m e he => ?_⟩, fun hno => ?_⟩
  · show _ ↔ ((near4 a b cx cy far).no || lessF (near4 a b cx cy far).tn (near4 a b cx cy far).td (near4 a b cx cy far).fn (near4 a b cx cy far).fd) = false ∧ _
    have hi := s4.iff m e he
    have eq : Mem a b cx cy far m e ↔ ((((0 ≤ m ∧ m ≤ e) ∧ (2 * cx - far - 2 * a.x) * e ≤ m * (2 * (b.x - a.x))) ∧ (2 * cy - far - 2 * a.y) * e ≤ m * (2 * (b.y - a.y))) ∧ (-2 * cx - far - -2 * a.x) * e ≤ m * (-(2 * (b.x - a.x)))) ∧ (-2 * cy - far - -2 * a.y) * e ≤ m * (-(2 * (b.y - a.y))) := by
      have k1 : (-2 * cx - far - -2 * a.x) * e = -((2 * cx + far - 2 * a.x) * e) := by rw [← Int.neg_mul]; congr 1; omega
      have k2 : (-2 * cy - far - -2 * a.y) * e = -((2 * cy + far - 2 * a.y) * e) := by rw [← Int.neg_mul]; congr 1; omega
      rw [k1, k2, Int.mul_neg, Int.mul_neg]
      unfold Mem
      constructor
      · rintro ⟨h1, ⟨h2, h3⟩, h4, h5⟩; exact ⟨⟨⟨⟨h1, h2⟩, h4⟩, by omega⟩, by omega⟩
      · rintro ⟨⟨⟨⟨h1, h2⟩, h4⟩, h3⟩, h5⟩; exact ⟨h1, ⟨h2, by omega⟩, h4, by omega⟩
    rw [eq, hi]
    constructor
    · rintro ⟨h1, h2, h3⟩
      refine ⟨?_, h2, h3⟩
      rw [h1, Bool.false_or]
      refine decide_eq_false fun hl => ?_
      have := tr_le (a := (near4 a b cx cy far).fn) (b := (near4 a b cx cy far).fd) (c := m) (d := e) (m := (near4 a b cx cy far).tn) (e := (near4 a b cx cy far).td) he (Int.le_of_lt s4.fd) (Int.le_of_lt s4.td) h2 h3
      omega
    · rintro ⟨h1, h2, h3⟩
      exact ⟨(by cases h : (near4 a b cx cy far).no <;> rw [h] at h1 <;> first | rfl | cases h1), h2, h3⟩
  · have hno : ((near4 a b cx cy far).no || lessF (near4 a b cx cy far).tn (near4 a b cx cy far).td (near4 a b cx cy far).fn (near4 a b cx cy far).fd) = false := hno
    rw [Bool.or_eq_false_iff] at hno
    have := of_decide_eq_false hno.2
    show (near4 a b cx cy far).fn * (near4 a b cx cy far).td ≤ (near4 a b cx cy far).tn * (near4 a b cx cy far).fd
    omega

/-! ### The document's parts -/
structure RV.Spec (p : RV) (S : Int → Int → Prop) : Prop where
  fd : 0 < p.fd
  td : 0 < p.td
  iff : ∀ m e, 0 < e → (S m e ↔ p.no = false ∧ p.fn * e ≤ m * p.fd ∧ m * p.td ≤ p.tn * e)
theorem cmp3_pos (x y : Int) : cmp3 x y > 0 ↔ y < x := by
  unfold cmp3
  split
  · omega
  · split <;> omega
theorem cmp3_neg (x y : Int) : cmp3 x y < 0 ↔ x < y := by
  unfold cmp3
  split
  · omega
  · split <;> omega
theorem cmp3_zero (x y : Int) : cmp3 x y = 0 ↔ x = y := by
  unfold cmp3
  split
  · omega
  · split <;> omega
theorem keepP_spec {p : RV} {S : Int → Int → Prop} (h : p.Spec S) {fn tn d : Int} (hd : 0 < d) : (keepP p fn tn d).Spec (fun m e => S m e ∧ fn * e ≤ m * d ∧ m * d ≤ tn * e) := by
  obtain ⟨hf, ht, hi⟩ := h
  unfold keepP
  refine ⟨?_, ?_, fun m e he => ?_⟩
  · dsimp only; split <;> assumption
  · dsimp only; split <;> assumption
  rw [hi m e he]
  dsimp only
  simp only [cmp3_pos, cmp3_neg]
  have A : (p.fn * e ≤ m * p.fd ∧ fn * e ≤ m * d) ↔ (if p.fn * d < fn * p.fd then fn else p.fn) * e ≤ m * (if p.fn * d < fn * p.fd then d else p.fd) := by
    split
    · rename_i q
      constructor
      · exact fun w => w.2
      · exact fun w => ⟨tr_le hd (by omega) (by omega) (Int.le_of_lt q) w, w⟩
    · rename_i q
      constructor
      · exact fun w => w.1
      · exact fun w => ⟨w, tr_le hf (by omega) (by omega) (by omega) w⟩
  have B : (m * p.td ≤ p.tn * e ∧ m * d ≤ tn * e) ↔ m * (if tn * p.td < p.tn * d then d else p.td) ≤ (if tn * p.td < p.tn * d then tn else p.tn) * e := by
    split
    · rename_i q
      constructor
      · exact fun w => w.2
      · exact fun w => ⟨tr_le (a := m) (b := e) (c := tn) (d := d) (m := p.tn) (e := p.td) hd (by omega) (by omega) w (Int.le_of_lt q), w⟩
    · rename_i q
      constructor
      · exact fun w => w.1
      · exact fun w => ⟨w, tr_le (a := m) (b := e) (c := p.tn) (d := p.td) (m := tn) (e := d) ht (by omega) (by omega) w (by omega)⟩
  rw [← A, ← B]
  constructor
  · rintro ⟨⟨h1, h2, h3⟩, h4, h5⟩; exact ⟨h1, ⟨h2, h4⟩, h3, h5⟩
  · rintro ⟨h1, ⟨h2, h4⟩, h3, h5⟩; exact ⟨⟨h1, h2, h3⟩, h4, h5⟩
theorem keepF_spec {p : RV} {S : Int → Int → Prop} (h : p.Spec S) (a b low high : Int) : (keepF p a b low high).Spec (fun m e => S m e ∧ (low - 2 * a) * e ≤ m * (2 * (b - a)) ∧ m * (2 * (b - a)) ≤ (high - 2 * a) * e) := by
  unfold keepF
  by_cases h0 : a = b
  · rw [if_pos h0]
    subst h0
    obtain ⟨hf, ht, hi⟩ := h
    refine ⟨hf, ht, fun m e he => ?_⟩
    rw [hi m e he]
    rw [show m * (2 * (a - a)) = 0 by rw [Int.sub_self]; simp]
    have P : ∀ x : Int, x * e ≤ 0 ↔ x ≤ 0 := fun x => by
      constructor
      · intro q
        rcases Int.lt_or_le 0 x with w | w
        · have := Int.mul_pos w he; omega
        · exact w
      · intro q
        have := Int.mul_le_mul_of_nonneg_right q (show 0 ≤ e by omega)
        omega
    have Q : ∀ x : Int, 0 ≤ x * e ↔ 0 ≤ x := fun x => by
      have := P (-x)
      rw [Int.neg_mul] at this
      omega
    rw [P, Q]
    simp only [Bool.or_eq_false_iff, decide_eq_false_iff_not]
    constructor
    · rintro ⟨⟨h1, h2, h3⟩, h4, h5⟩; exact ⟨⟨h1, by omega, by omega⟩, h2, h3⟩
    · rintro ⟨⟨h1, h4, h5⟩, h2, h3⟩; exact ⟨⟨h1, h2, h3⟩, by omega, by omega⟩
  rw [if_neg h0]
  by_cases h1 : 2 * (b - a) < 0
  · rw [if_pos h1]
    have := keepP_spec h (fn := 2 * a - high) (tn := 2 * a - low) (d := -(2 * (b - a))) (by omega)
    refine ⟨this.fd, this.td, fun m e he => ?_⟩
    rw [← this.iff m e he]
    have k1 : (2 * a - high) * e = -((high - 2 * a) * e) := by rw [← Int.neg_mul]; congr 1; omega
    have k2 : (2 * a - low) * e = -((low - 2 * a) * e) := by rw [← Int.neg_mul]; congr 1; omega
    rw [k1, k2, Int.mul_neg]
    constructor
    · rintro ⟨h1, h2, h3⟩; exact ⟨h1, by omega, by omega⟩
    · rintro ⟨h1, h2, h3⟩; exact ⟨h1, by omega, by omega⟩
  · rw [if_neg h1]
    exact keepP_spec h (by omega)
theorem partF_spec (a b : Pt) (cx cy far : Int) : (partF a b cx cy far).Spec (Mem a b cx cy far) := by
  have s0 : rv0.Spec (fun m e => 0 ≤ m ∧ m ≤ e) := ⟨by decide, by decide, fun m e he => by
    show _ ↔ false = false ∧ 0 * e ≤ m * 1 ∧ m * 1 ≤ 1 * e
    constructor
    · rintro ⟨a, b⟩; exact ⟨rfl, by omega, by omega⟩
    · rintro ⟨_, a, b⟩; exact ⟨by omega, by omega⟩⟩
  have s2 := keepF_spec (keepF_spec s0 a.x b.x (2 * cx - far) (2 * cx + far)) a.y b.y (2 * cy - far) (2 * cy + far)
  refine ⟨s2.fd, s2.td, fun m e he => ?_⟩
  have := s2.iff m e he
  unfold partF part1
  rw [← this]
  unfold Mem
  constructor
  · rintro ⟨h1, h2, h3⟩; exact ⟨⟨h1, h2⟩, h3⟩
  · rintro ⟨⟨h1, h2⟩, h3⟩; exact ⟨h1, h2, h3⟩

end Go.Proofs.Ytllaijapijinoaa

namespace Go.Proofs.Ytllaijapijinoaa
set_option linter.unusedVariables false

/-- A chain goes along a segment: the first place is at its first vertex, the last one at its last; and of any two vertices the later one has a place that is not ahead of one of the earlier one's. -/
structure CloseS (a b : Pt) (k far : Int) (V : List Pt) : Prop where
  first : ∀ q, V[0]? = some q → Mem a b (cenF q.x k) (cenF q.y k) far 0 1
  last : ∀ q, V[V.length - 1]? = some q → Mem a b (cenF q.x k) (cenF q.y k) far 1 1
  pair : ∀ (i j : Nat) qi qj, j ≤ i → V[i]? = some qi → V[j]? = some qj → ∃ m e m' e', 0 < e ∧ 0 < e' ∧ Mem a b (cenF qj.x k) (cenF qj.y k) far m e ∧ Mem a b (cenF qi.x k) (cenF qi.y k) far m' e' ∧ m * e' ≤ m' * e

def atN (p : PV) (n d : Int) : Int × Int := if lessF n d p.fn p.fd = true then (p.fn, p.fd) else (n, d)
theorem closeStep_iff (p : PV) (i m : Nat) (n d : Int) (x : Int × Int) : closeStep p i m n d = some x ↔
    p.no = false ∧ (i = 0 → p.fn ≤ 0) ∧ ((i : Int) = (m : Int) - 1 → p.td ≤ p.tn) ∧ (atN p n d).1 * p.td ≤ p.tn * (atN p n d).2 ∧ x = atN p n d := by
  unfold closeStep
  have L : ∀ a b c d : Int, lessF a b c d = true ↔ a * d < c * b := fun a b c d => decide_eq_true_iff
  have b1 : ((i : Int) == 0 && lessF 0 1 p.fn p.fd) = true ↔ ¬ (i = 0 → p.fn ≤ 0) := by
    rw [Bool.and_eq_true, L]
    simp only [beq_iff_eq]
    constructor
    · rintro ⟨h1, h2⟩ h3; have := h3 (by omega); omega
    · intro h
      rw [Classical.not_imp] at h
      exact ⟨by omega, by omega⟩
  have b2 : ((i : Int) == (m : Int) - 1 && lessF p.tn p.td 1 1) = true ↔ ¬ ((i : Int) = (m : Int) - 1 → p.td ≤ p.tn) := by
    rw [Bool.and_eq_true, L]
    simp only [beq_iff_eq]
    constructor
    · rintro ⟨h1, h2⟩ h3; have := h3 (by omega); omega
    · intro h
      rw [Classical.not_imp] at h
      exact ⟨by omega, by omega⟩
  by_cases h0 : p.no = true
  · rw [if_pos h0]; simp [h0]
  rw [if_neg h0]
  by_cases h1 : ((i : Int) == 0 && lessF 0 1 p.fn p.fd) = true
  · rw [if_pos h1]
    have := b1.1 h1
    constructor
    · intro h; cases h
    · rintro ⟨_, h, _⟩; exact absurd h this
  rw [if_neg h1]
  by_cases h2 : ((i : Int) == (m : Int) - 1 && lessF p.tn p.td 1 1) = true
  · rw [if_pos h2]
    have := b2.1 h2
    constructor
    · intro h; cases h
    · rintro ⟨_, _, h, _⟩; exact absurd h this
  rw [if_neg h2]
  have h1' : i = 0 → p.fn ≤ 0 := Classical.byContradiction fun q => h1 (b1.2 q)
  have h2' : (i : Int) = (m : Int) - 1 → p.td ≤ p.tn := Classical.byContradiction fun q => h2 (b2.2 q)
  have h0' : p.no = false := by cases h : p.no with | false => rfl | true => exact absurd h h0
  by_cases h3 : lessF n d p.fn p.fd = true
  · rw [if_pos h3]
    unfold atN
    rw [if_pos h3]
    by_cases h4 : lessF p.tn p.td p.fn p.fd = true
    · rw [if_pos h4]
      have := (L _ _ _ _).1 h4
      constructor
      · intro h; cases h
      · rintro ⟨_, _, _, h, _⟩; dsimp only at h; omega
    · rw [if_neg h4]
      rw [L] at h4
      constructor
      · intro h; cases h; exact ⟨h0', h1', h2', by dsimp only; omega, rfl⟩
      · rintro ⟨_, _, _, _, h⟩; rw [h]
  · rw [if_neg h3]
    unfold atN
    rw [if_neg h3]
    by_cases h4 : lessF p.tn p.td n d = true
    · rw [if_pos h4]
      have := (L _ _ _ _).1 h4
      constructor
      · intro h; cases h
      · rintro ⟨_, _, _, h, _⟩; dsimp only at h; omega
    · rw [if_neg h4]
      rw [L] at h4
      constructor
      · intro h; cases h; exact ⟨h0', h1', h2', by dsimp only; omega, rfl⟩
      · rintro ⟨_, _, _, _, h⟩; rw [h]
section
variable (a b : Pt) (k far : Int)
abbrev nP (q : Pt) : PV := nearPV a b (cenF q.x k) (cenF q.y k) far
theorem atN_le {p : PV} {n d : Int} (hf : 0 < p.fd) (hd : 0 < d) : 0 < (atN p n d).2 ∧ ∀ tn td : Int, 0 < td → ((atN p n d).1 * td ≤ tn * (atN p n d).2 ↔ n * td ≤ tn * d ∧ p.fn * td ≤ tn * p.fd) := by
  unfold atN
  by_cases h : lessF n d p.fn p.fd = true
  · rw [if_pos h]
    have h : n * p.fd < p.fn * d := of_decide_eq_true h
    refine ⟨hf, fun tn td ht => ⟨fun w => ⟨tr_le hf (by omega) (by omega) (Int.le_of_lt h) w, w⟩, fun w => w.2⟩⟩
  · rw [if_neg h]
    have h : ¬ n * p.fd < p.fn * d := fun w => h (decide_eq_true w)
    refine ⟨hd, fun tn td ht => ?_⟩
    show n * td ≤ tn * d ↔ _
    exact ⟨fun w => ⟨w, tr_le hd (by omega) (by omega) (by omega) w⟩, fun w => w.1⟩
theorem closeL_iff (m : Nat) : ∀ (V : List Pt) (i : Nat) (n d : Int), 0 < d → i + V.length = m → (closeL a b k far m V i n d = true ↔
    (∀ q ∈ V, (nP a b k far q).no = false) ∧ (i = 0 → ∀ q, V[0]? = some q → (nP a b k far q).fn ≤ 0) ∧ (∀ q, V[V.length - 1]? = some q → (nP a b k far q).td ≤ (nP a b k far q).tn) ∧
    (∀ q ∈ V, n * (nP a b k far q).td ≤ (nP a b k far q).tn * d) ∧
    (∀ (i j : Nat) qi qj, j ≤ i → V[i]? = some qi → V[j]? = some qj → (nP a b k far qj).fn * (nP a b k far qi).td ≤ (nP a b k far qi).tn * (nP a b k far qj).fd))
  | [], i, n, d, hd, hm => by
    simp [closeL]
  | q :: L, i, n, d, hd, hm => by
    have sp := (near_spec a b (cenF q.x k) (cenF q.y k) far).1
    have tdp : ∀ q, 0 < (nP a b k far q).td := fun q => (near_spec a b (cenF q.x k) (cenF q.y k) far).1.td
    have key : closeL a b k far m (q :: L) i n d = true ↔ ∃ x, closeStep (nP a b k far q) i m n d = some x ∧ closeL a b k far m L (i + 1) x.1 x.2 = true := by
      rw [closeL]
      cases h : closeStep (nearPV a b (cenF q.x k) (cenF q.y k) far) i m n d with
      | none => simp [h]
      | some x => simp [h]
    rw [key]
    have hat := atN_le (p := nP a b k far q) (n := n) (d := d) sp.fd hd
    have ih := closeL_iff m L (i + 1) (atN (nP a b k far q) n d).1 (atN (nP a b k far q) n d).2 hat.1 (by simp at hm; omega)
    have hlen : (q :: L).length = L.length + 1 := rfl
    constructor
    · rintro ⟨x, h1, h2⟩
      obtain ⟨c1, c2, c3, c4, rfl⟩ := (closeStep_iff _ _ _ _ _ _).1 h1
      obtain ⟨d1, d2, d3, d4, d5⟩ := ih.1 h2
      refine ⟨fun q' hq => ?_, fun h0 q' hq => ?_, fun q' hq => ?_, fun q' hq => ?_, fun i' j' qi qj hij hi hj => ?_⟩
      · rcases List.mem_cons.1 hq with rfl | hq
        · exact c1
        · exact d1 q' hq
      · simp at hq; subst hq; exact c2 h0
      · rw [hlen] at hq
        cases L with
        | nil => simp at hq; subst hq; exact c3 (by simp at hm; omega)
        | cons y r => exact d3 q' (by simpa using hq)
      · rcases List.mem_cons.1 hq with rfl | hq
        · exact ((hat.2 _ _ (tdp _)).1 c4).1
        · exact ((hat.2 _ _ (tdp _)).1 (d4 q' hq)).1
      · cases j' with
        | zero =>
          simp at hj
          subst hj
          cases i' with
          | zero => simp at hi; subst hi; exact ((hat.2 _ _ (tdp _)).1 c4).2
          | succ i' =>
            simp at hi
            exact ((hat.2 _ _ (tdp _)).1 (d4 qi (List.mem_of_getElem? hi))).2
        | succ j' =>
          cases i' with
          | zero => omega
          | succ i' => simp at hi hj; exact d5 i' j' qi qj (by omega) hi hj
    · rintro ⟨d1, d2, d3, d4, d5⟩
      refine ⟨atN (nP a b k far q) n d, (closeStep_iff _ _ _ _ _ _).2 ⟨d1 q (by simp), fun h0 => d2 h0 q rfl, fun h0 => ?_, (hat.2 _ _ (tdp _)).2 ⟨d4 q (by simp), d5 0 0 q q (Nat.le_refl _) rfl rfl⟩, rfl⟩, ih.2 ⟨fun q' hq => d1 q' (by simp [hq]), fun h0 => by omega, fun q' hq => ?_, fun q' hq => ?_, fun i' j' qi qj hij hi hj => d5 (i' + 1) (j' + 1) qi qj (by omega) (by simpa using hi) (by simpa using hj)⟩⟩
      · refine d3 q ?_
        have : L.length = 0 := by simp at hm; omega
        rw [hlen, this]
        rfl
      · refine d3 q' ?_
        cases L with
        | nil => simp at hq
        | cons y r => simpa using hq
      · obtain ⟨i', hi⟩ := List.getElem?_of_mem hq
        exact (hat.2 _ _ (tdp _)).2 ⟨d4 q' (by simp [hq]), d5 (i' + 1) 0 q' q (Nat.zero_le _) (by simpa using hi) rfl⟩
/-- The program's words. -/
theorem closeL_S (V : List Pt) : closeL a b k far V.length V 0 0 1 = true ↔ CloseS a b k far V := by
  rw [closeL_iff a b k far V.length V 0 0 1 (by decide) (by simp)]
  have S : ∀ q, (nP a b k far q).Spec (Mem a b (cenF q.x k) (cenF q.y k) far) := fun q => (near_spec a b (cenF q.x k) (cenF q.y k) far).1
  have NE : ∀ q, (nP a b k far q).no = false → (nP a b k far q).fn * (nP a b k far q).td ≤ (nP a b k far q).tn * (nP a b k far q).fd := fun q => (near_spec a b (cenF q.x k) (cenF q.y k) far).2
  have F : ∀ q, (nP a b k far q).no = false → Mem a b (cenF q.x k) (cenF q.y k) far (nP a b k far q).fn (nP a b k far q).fd := fun q h =>
    ((S q).iff _ _ (S q).fd).2 ⟨h, Int.le_refl _, NE q h⟩
  have T : ∀ q, (nP a b k far q).no = false → Mem a b (cenF q.x k) (cenF q.y k) far (nP a b k far q).tn (nP a b k far q).td := fun q h =>
    ((S q).iff _ _ (S q).td).2 ⟨h, NE q h, Int.le_refl _⟩
  constructor
  · rintro ⟨d1, d2, d3, d4, d5⟩
    refine ⟨fun q hq => ?_, fun q hq => ?_, fun i j qi qj hij hi hj => ?_⟩
    · have hno := d1 q (List.mem_of_getElem? hq)
      have h1 := d2 rfl q hq
      have h2 := (T q hno).1.1
      exact ((S q).iff 0 1 (by decide)).2 ⟨hno, by omega, by omega⟩
    · have hno := d1 q (List.mem_of_getElem? hq)
      have h1 := d3 q hq
      have h2 := (F q hno).1.2
      exact ((S q).iff 1 1 (by decide)).2 ⟨hno, by omega, by omega⟩
    · exact ⟨_, _, _, _, (S qj).fd, (S qi).td, F qj (d1 qj (List.mem_of_getElem? hj)), T qi (d1 qi (List.mem_of_getElem? hi)), d5 i j qi qj hij hi hj⟩
  · rintro ⟨h1, h2, h3⟩
    have hno : ∀ q ∈ V, (nP a b k far q).no = false := fun q hq => by
      obtain ⟨i, hi⟩ := List.getElem?_of_mem hq
      obtain ⟨m, e, m', e', he, he', q1, q2, _⟩ := h3 i i q q (Nat.le_refl _) hi hi
      exact (((S q).iff m e he).1 q1).1
    refine ⟨hno, fun _ q hq => ?_, fun q hq => ?_, fun q hq => ?_, fun i j qi qj hij hi hj => ?_⟩
    · have := ((S q).iff 0 1 (by decide)).1 (h1 q hq); omega
    · have := ((S q).iff 1 1 (by decide)).1 (h2 q hq); omega
    · have := (T q (hno q hq)).1.1; omega
    · obtain ⟨m, e, m', e', he, he', q1, q2, q3⟩ := h3 i j qi qj hij hi hj
      have p1 := (((S qj).iff m e he).1 q1).2.1
      have p2 := (((S qi).iff m' e' he').1 q2).2.2
      have t1 := tr_le (a := (nP a b k far qj).fn) (b := (nP a b k far qj).fd) (c := m) (d := e) (m := m') (e := e') he (Int.le_of_lt (S qj).fd) (Int.le_of_lt he') p1 q3
      exact tr_le (a := (nP a b k far qj).fn) (b := (nP a b k far qj).fd) (c := m') (d := e') (m := (nP a b k far qi).tn) (e := (nP a b k far qi).td) he' (Int.le_of_lt (S qj).fd) (Int.le_of_lt (S qi).td) t1 p2
abbrev nR (q : Pt) : RV := partF a b (cenF q.x k) (cenF q.y k) far
theorem overF_iff (f t : RV) : overF f t = false ↔ f.fn * t.td ≤ t.tn * f.fd := by
  unfold overF
  rw [decide_eq_false_iff_not, cmp3_pos]
  omega
theorem endF_iff (L : List RV) : endF L = true ↔ L ≠ [] ∧ (∀ x, L[0]? = some x → x.fn = 0) ∧ (∀ x, L[L.length - 1]? = some x → x.tn = x.td) := by
  cases L with
  | nil => simp [endF]
  | cons x r =>
    have hl : (x :: r)[r.length]? = some ((x :: r).getD r.length x) := by rw [List.getD_eq_getElem?_getD]; cases h : (x :: r)[r.length]? with | none => simp at h | some z => rfl
    unfold endF
    rw [Bool.and_eq_true, beq_iff_eq, beq_iff_eq, cmp3_zero, cmp3_zero]
    have hlen : (x :: r).length - 1 = r.length := by simp
    rw [hlen, hl]
    constructor
    · rintro ⟨h1, h2⟩
      exact ⟨by simp, fun y hy => by simp at hy; subst hy; omega, fun y hy => by cases hy; omega⟩
    · rintro ⟨_, h1, h2⟩
      have := h1 x rfl
      have := h2 _ rfl
      exact ⟨by omega, by omega⟩
theorem closeR_iff : ∀ (V : List Pt) (L : List RV), (∀ q ∈ V, (nearF q.x k && nearF q.y k) = true) → (closeR a b k far V L = true ↔
    (∀ q ∈ V, (nR a b k far q).no = false ∧ (nR a b k far q).fn * (nR a b k far q).td ≤ (nR a b k far q).tn * (nR a b k far q).fd) ∧ (∀ q ∈ V, ∀ l ∈ L, l.fn * (nR a b k far q).td ≤ (nR a b k far q).tn * l.fd) ∧
    (∀ (i j : Nat) qi qj, j < i → V[i]? = some qi → V[j]? = some qj → (nR a b k far qj).fn * (nR a b k far qi).td ≤ (nR a b k far qi).tn * (nR a b k far qj).fd) ∧ endF (L ++ V.map (nR a b k far)) = true)
  | [], L, _ => by simp [closeR]
  | q :: V, L, hn => by
    have ih := closeR_iff V (L ++ [nR a b k far q]) (fun q' h => hn q' (by simp [h]))
    rw [closeR, if_neg (by rw [hn q (by simp)]; decide)]
    have e1 : L ++ List.map (nR a b k far) (q :: V) = L ++ [nR a b k far q] ++ List.map (nR a b k far) V := by simp
    rw [e1]
    by_cases h1 : ((nR a b k far q).no || overF (nR a b k far q) (nR a b k far q)) = true
    · rw [if_pos h1]
      constructor
      · intro h; cases h
      · rintro ⟨c1, _⟩
        obtain ⟨c2, c3⟩ := c1 q (by simp)
        rw [← overF_iff] at c3
        rw [c2, c3] at h1
        cases h1
    rw [if_neg h1]
    have h1' : (nR a b k far q).no = false ∧ overF (nR a b k far q) (nR a b k far q) = false := by
      rw [← Bool.or_eq_false_iff]
      cases h : ((nR a b k far q).no || overF (nR a b k far q) (nR a b k far q)) with | false => rfl | true => exact absurd h h1
    by_cases h2 : L.any (fun l => overF l (nR a b k far q)) = true
    · rw [if_pos h2]
      obtain ⟨l, hl, ho⟩ := List.any_eq_true.1 h2
      constructor
      · intro h; cases h
      · rintro ⟨_, c1, _⟩
        have := c1 q (by simp) l hl
        rw [← overF_iff, ho] at this
        cases this
    rw [if_neg h2]
    have h2' : ∀ l ∈ L, l.fn * (nR a b k far q).td ≤ (nR a b k far q).tn * l.fd := fun l hl => by
      rw [← overF_iff]
      cases h : overF l (nR a b k far q) with
      | false => rfl
      | true => exact absurd (List.any_eq_true.2 ⟨l, hl, h⟩) h2
    rw [ih]
    constructor
    · rintro ⟨c1, c2, c3, c4⟩
      refine ⟨fun q' hq => ?_, fun q' hq l hl => ?_, fun i j qi qj hij hi hj => ?_, c4⟩
      · rcases List.mem_cons.1 hq with rfl | hq
        · exact ⟨h1'.1, (overF_iff _ _).1 h1'.2⟩
        · exact c1 q' hq
      · rcases List.mem_cons.1 hq with rfl | hq
        · exact h2' l hl
        · exact c2 q' hq l (by simp [hl])
      · cases i with
        | zero => omega
        | succ i =>
          simp at hi
          cases j with
          | zero => simp at hj; subst hj; exact c2 qi (List.mem_of_getElem? hi) _ (by simp)
          | succ j => simp at hj; exact c3 i j qi qj (by omega) hi hj
    · rintro ⟨c1, c2, c3, c4⟩
      refine ⟨fun q' hq => c1 q' (by simp [hq]), fun q' hq l hl => ?_, fun i j qi qj hij hi hj => c3 (i + 1) (j + 1) qi qj (by omega) (by simpa using hi) (by simpa using hj), c4⟩
      rcases List.mem_append.1 hl with hl | hl
      · exact c2 q' (by simp [hq]) l hl
      · simp at hl
        subst hl
        obtain ⟨i, hi⟩ := List.getElem?_of_mem hq
        exact c3 (i + 1) 0 q' q (by omega) (by simpa using hi) rfl
/-- The document's words. -/
theorem closeR_S (V : List Pt) (hne : V ≠ []) (hn : ∀ q ∈ V, (nearF q.x k && nearF q.y k) = true) : closeR a b k far V [] = true ↔ CloseS a b k far V := by
  rw [closeR_iff a b k far V [] hn, endF_iff]
  have S : ∀ q, (nR a b k far q).Spec (Mem a b (cenF q.x k) (cenF q.y k) far) := fun q => partF_spec a b (cenF q.x k) (cenF q.y k) far
  constructor
  · rintro ⟨c1, _, c3, _, c4, c5⟩
    have F : ∀ q ∈ V, Mem a b (cenF q.x k) (cenF q.y k) far (nR a b k far q).fn (nR a b k far q).fd := fun q hq => ((S q).iff _ _ (S q).fd).2 ⟨(c1 q hq).1, Int.le_refl _, (c1 q hq).2⟩
    have T : ∀ q ∈ V, Mem a b (cenF q.x k) (cenF q.y k) far (nR a b k far q).tn (nR a b k far q).td := fun q hq => ((S q).iff _ _ (S q).td).2 ⟨(c1 q hq).1, (c1 q hq).2, Int.le_refl _⟩
    refine ⟨fun q hq => ?_, fun q hq => ?_, fun i j qi qj hij hi hj => ?_⟩
    · have hm := List.mem_of_getElem? hq
      have h1 := c4 (nR a b k far q) (by simp [hq])
      have h2 := F q hm
      rw [h1] at h2
      have h3 := (T q hm).1.1
      exact ((S q).iff 0 1 (by decide)).2 ⟨(c1 q hm).1, by omega, by omega⟩
    · have hm := List.mem_of_getElem? hq
      have h1 := c5 (nR a b k far q) (by simp [hq])
      have h3 := (F q hm).1.2
      exact ((S q).iff 1 1 (by decide)).2 ⟨(c1 q hm).1, by omega, by omega⟩
    · have mi := List.mem_of_getElem? hi
      have mj := List.mem_of_getElem? hj
      refine ⟨_, _, _, _, (S qj).fd, (S qi).td, F qj mj, T qi mi, ?_⟩
      rcases Nat.lt_or_ge j i with h | h
      · exact c3 i j qi qj h hi hj
      · have : j = i := by omega
        subst this
        rw [hi] at hj
        cases hj
        exact (c1 qi mi).2
  · rintro ⟨h1, h2, h3⟩
    have B : ∀ (i j : Nat) qi qj, j ≤ i → V[i]? = some qi → V[j]? = some qj → (nR a b k far qj).fn * (nR a b k far qi).td ≤ (nR a b k far qi).tn * (nR a b k far qj).fd := fun i j qi qj hij hi hj => by
      obtain ⟨m, e, m', e', he, he', q1, q2, q3⟩ := h3 i j qi qj hij hi hj
      have p1 := (((S qj).iff m e he).1 q1).2.1
      have p2 := (((S qi).iff m' e' he').1 q2).2.2
      have t1 := tr_le (a := (nR a b k far qj).fn) (b := (nR a b k far qj).fd) (c := m) (d := e) (m := m') (e := e') he (Int.le_of_lt (S qj).fd) (Int.le_of_lt he') p1 q3
      exact tr_le (a := (nR a b k far qj).fn) (b := (nR a b k far qj).fd) (c := m') (d := e') (m := (nR a b k far qi).tn) (e := (nR a b k far qi).td) he' (Int.le_of_lt (S qj).fd) (Int.le_of_lt (S qi).td) t1 p2
    have c1 : ∀ q ∈ V, (nR a b k far q).no = false ∧ (nR a b k far q).fn * (nR a b k far q).td ≤ (nR a b k far q).tn * (nR a b k far q).fd := fun q hq => by
      obtain ⟨i, hi⟩ := List.getElem?_of_mem hq
      obtain ⟨m, e, m', e', he, he', q1, q2, _⟩ := h3 i i q q (Nat.le_refl _) hi hi
      exact ⟨(((S q).iff m e he).1 q1).1, B i i q q (Nat.le_refl _) hi hi⟩
    have F : ∀ q ∈ V, Mem a b (cenF q.x k) (cenF q.y k) far (nR a b k far q).fn (nR a b k far q).fd := fun q hq => ((S q).iff _ _ (S q).fd).2 ⟨(c1 q hq).1, Int.le_refl _, (c1 q hq).2⟩
    have T : ∀ q ∈ V, Mem a b (cenF q.x k) (cenF q.y k) far (nR a b k far q).tn (nR a b k far q).td := fun q hq => ((S q).iff _ _ (S q).td).2 ⟨(c1 q hq).1, (c1 q hq).2, Int.le_refl _⟩
    refine ⟨c1, fun q _ l hl => (by cases hl), fun i j qi qj hij hi hj => B i j qi qj (by omega) hi hj, by simpa using hne, fun x hx => ?_, fun x hx => ?_⟩
    · simp only [List.nil_append, List.getElem?_map, Option.map_eq_some_iff] at hx
      obtain ⟨q, hq, rfl⟩ := hx
      have q1 := ((S q).iff 0 1 (by decide)).1 (h1 q hq)
      have q2 := (F q (List.mem_of_getElem? hq)).1.1
      show (nR a b k far q).fn = 0
      omega
    · simp only [List.nil_append, List.length_map, List.getElem?_map, Option.map_eq_some_iff] at hx
      obtain ⟨q, hq, rfl⟩ := hx
      have q1 := ((S q).iff 1 1 (by decide)).1 (h2 q hq)
      have q2 := (T q (List.mem_of_getElem? hq)).1.2
      show (nR a b k far q).tn = (nR a b k far q).td
      omega
/-- The program and the document tell the same. -/
theorem closeF_eq (V : List Pt) (hV : ∀ q ∈ V, InI q.x ∧ InI q.y) : closeF V a b k far = closeRF V a b k far := by
  have hk : (k == rungF k) = (decide (k ≥ 0) && decide (k ≤ 28)) := by
    rw [Bool.eq_iff_iff]
    simp only [beq_iff_eq, Bool.and_eq_true, decide_eq_true_eq]
    unfold rungF mnE mxE
    repeat' split
    all_goals omega
  unfold closeF closeRF
  rw [hk]
  congr 4
  congr 1
  cases hb : V.any (badF k)
  · by_cases hne : V = []
    · subst hne; rfl
    have hn : ∀ q ∈ V, (nearF q.x k && nearF q.y k) = true := fun q hq => by
      have := (List.any_eq_false.1 hb) q hq
      unfold badF at this
      simpa using this
    have : closeL a b k far V.length V 0 0 1 = closeR a b k far V [] := by
      rw [Bool.eq_iff_iff, closeL_S, closeR_S _ _ _ _ V hne hn]
    rw [this]
    cases ((V.length : Int) == 0) <;> rfl
  · obtain ⟨q, hq, hbq⟩ := List.any_eq_true.1 hb
    have hbq : (nearF q.x k && nearF q.y k) = false := by unfold badF at hbq; cases h : (nearF q.x k && nearF q.y k) <;> rw [h] at hbq <;> first | rfl | cases hbq
    have key : ∀ (V : List Pt) (L : List RV), q ∈ V → closeR a b k far V L = false := by
      intro V
      induction V with
      | nil => intro L h; cases h
      | cons x r ih =>
        intro L h
        rw [closeR]
        split
        · rfl
        · rename_i hx
          split
          · rfl
          · split
            · rfl
            · rcases List.mem_cons.1 h with h | h
              · subst h; exact absurd hbq hx
              · exact ih _ h
    rw [key V [] hq]
    cases ((V.length : Int) == 0) <;> rfl
/-- A little farther apart. -/
theorem Mem.more {a b : Pt} {cx cy far m e : Int} (he : 0 < e) (h : Mem a b cx cy far m e) : Mem a b cx cy (far + 1) m e := by
  obtain ⟨h1, ⟨h2, h3⟩, h4, h5⟩ := h
  have e1 : (2 * cx - (far + 1) - 2 * a.x) * e = (2 * cx - far - 2 * a.x) * e - e := by rw [show 2 * cx - (far + 1) - 2 * a.x = (2 * cx - far - 2 * a.x) - 1 by omega, Int.sub_mul, Int.one_mul]
  have e2 : (2 * cx + (far + 1) - 2 * a.x) * e = (2 * cx + far - 2 * a.x) * e + e := by rw [show 2 * cx + (far + 1) - 2 * a.x = (2 * cx + far - 2 * a.x) + 1 by omega, Int.add_mul, Int.one_mul]
  have e3 : (2 * cy - (far + 1) - 2 * a.y) * e = (2 * cy - far - 2 * a.y) * e - e := by rw [show 2 * cy - (far + 1) - 2 * a.y = (2 * cy - far - 2 * a.y) - 1 by omega, Int.sub_mul, Int.one_mul]
  have e4 : (2 * cy + (far + 1) - 2 * a.y) * e = (2 * cy + far - 2 * a.y) * e + e := by rw [show 2 * cy + (far + 1) - 2 * a.y = (2 * cy + far - 2 * a.y) + 1 by omega, Int.add_mul, Int.one_mul]
  unfold Mem
  rw [e1, e2, e3, e4]
  exact ⟨h1, ⟨by omega, by omega⟩, by omega, by omega⟩
/-- From the other end. -/
theorem Mem.back {a b : Pt} {cx cy far m e : Int} (h : Mem a b cx cy far m e) : Mem b a cx cy far (e - m) e := by
  obtain ⟨h1, ⟨h2, h3⟩, h4, h5⟩ := h
  have f1 : ∀ c f p q : Int, (c - f - 2 * p) * e ≤ m * (2 * (q - p)) → (c - f - 2 * q) * e ≤ (e - m) * (2 * (p - q)) := fun c f p q h => by
    rw [Int.sub_mul e m, show 2 * (p - q) = -(2 * (q - p)) by omega, Int.mul_neg, Int.mul_neg, show (c - f - 2 * q) = (c - f - 2 * p) - 2 * (q - p) by omega, Int.sub_mul, Int.mul_comm (2 * (q - p)) e]
    omega
  have f2 : ∀ c f p q : Int, m * (2 * (q - p)) ≤ (c + f - 2 * p) * e → (e - m) * (2 * (p - q)) ≤ (c + f - 2 * q) * e := fun c f p q h => by
    rw [Int.sub_mul e m, show 2 * (p - q) = -(2 * (q - p)) by omega, Int.mul_neg, Int.mul_neg, show (c + f - 2 * q) = (c + f - 2 * p) - 2 * (q - p) by omega, Int.sub_mul, Int.mul_comm (2 * (q - p)) e]
    omega
  exact ⟨⟨by omega, by omega⟩, ⟨f1 _ _ _ _ h2, f2 _ _ _ _ h3⟩, f1 _ _ _ _ h4, f2 _ _ _ _ h5⟩
theorem CloseS.more {V : List Pt} (h : CloseS a b k far V) : CloseS a b k (far + 1) V :=
  ⟨fun q hq => (h.first q hq).more (by decide), fun q hq => (h.last q hq).more (by decide), fun i j qi qj hij hi hj => by
    obtain ⟨m, e, m', e', he, he', q1, q2, q3⟩ := h.pair i j qi qj hij hi hj
    exact ⟨m, e, m', e', he, he', q1.more he, q2.more he', q3⟩⟩
theorem CloseS.back {V : List Pt} (h : CloseS a b k far V) : CloseS b a k far V.reverse := by
  have R : ∀ (i : Nat) q, V.reverse[i]? = some q → i < V.length ∧ V[V.length - 1 - i]? = some q := fun i q hi => by
    have hl : i < V.reverse.length := (List.getElem?_eq_some_iff.1 hi).1
    rw [List.length_reverse] at hl
    rw [List.getElem?_reverse hl] at hi
    exact ⟨hl, hi⟩
  refine ⟨fun q hq => ?_, fun q hq => ?_, fun i j qi qj hij hi hj => ?_⟩
  · obtain ⟨_, hq⟩ := R 0 q hq
    exact (h.last q hq).back
  · rw [List.length_reverse] at hq
    obtain ⟨hl, hq⟩ := R _ q hq
    rw [show V.length - 1 - (V.length - 1) = 0 by omega] at hq
    exact (h.first q hq).back
  · obtain ⟨li, hi⟩ := R i qi hi
    obtain ⟨lj, hj⟩ := R j qj hj
    obtain ⟨m, e, m', e', he, he', q1, q2, q3⟩ := h.pair _ _ qj qi (by omega) hj hi
    refine ⟨e' - m', e', e - m, e, he', he, q2.back, q1.back, ?_⟩
    rw [Int.sub_mul, Int.sub_mul, Int.mul_comm e' e]
    omega
theorem closeF_iff (V : List Pt) : closeF V a b k far = true ↔ ((0 ≤ k ∧ k ≤ 28) ∧ rt a = true ∧ rt b = true ∧ (0 ≤ far ∧ far ≤ 268435456) ∧ V ≠ [] ∧ (∀ q ∈ V, (nearF q.x k && nearF q.y k) = true)) ∧ CloseS a b k far V := by
  unfold closeF
  rw [Bool.and_eq_true, Bool.and_eq_true, Bool.and_eq_true, Bool.and_eq_true, Bool.and_eq_true, Bool.and_eq_true, Bool.and_eq_true, Bool.and_eq_true, closeL_S]
  simp only [Bool.not_eq_true', decide_eq_true_eq, decide_eq_false_iff_not]
  have hb : V.any (badF k) = false ↔ ∀ q ∈ V, (nearF q.x k && nearF q.y k) = true := by
    rw [List.any_eq_false]
    unfold badF
    simp
  have hl : ((V.length : Int) == 0) = false ↔ V ≠ [] := by
    cases V with
    | nil => simp
    | cons x r =>
      simp only [beq_eq_false_iff_ne, ne_eq, List.length_cons]
      simp
      omega
  rw [hb, hl]
  constructor
  · rintro ⟨⟨h1, h2⟩, h3, h4, h5, h6, h7, h8, h9⟩; exact ⟨⟨⟨by omega, h2⟩, h3, h4, ⟨by omega, by omega⟩, h7, h8⟩, h9⟩
  · rintro ⟨⟨⟨h1, h2⟩, h3, h4, ⟨h5, h6⟩, h7, h8⟩, h9⟩; exact ⟨⟨by omega, h2⟩, h3, h4, by omega, by omega, h7, h8, h9⟩
/-- P10.3. -/
theorem closeF_more {V : List Pt} (h : closeF V a b k far = true) (hf : far ≠ 268435456) : closeF V a b k (far + 1) = true := by
  obtain ⟨⟨h1, h2, h3, h4, h5, h6⟩, h7⟩ := (closeF_iff _ _ _ _ V).1 h
  exact (closeF_iff _ _ _ _ V).2 ⟨⟨h1, h2, h3, by omega, h5, h6⟩, h7.more⟩
theorem closeF_back {V : List Pt} (h : closeF V a b k far = true) : closeF V.reverse b a k far = true := by
  obtain ⟨⟨h1, h2, h3, h4, h5, h6⟩, h7⟩ := (closeF_iff _ _ _ _ V).1 h
  exact (closeF_iff _ _ _ _ _).2 ⟨⟨h1, h3, h2, h4, by simpa using h5, fun q hq => h6 q (by simpa using hq)⟩, h7.back⟩
end
end Go.Proofs.Ytllaijapijinoaa


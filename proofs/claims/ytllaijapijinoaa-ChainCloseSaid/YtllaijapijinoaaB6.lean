/-
  Parts of one proof, in their order: The contract of the law CrossPlaces. Conditions: none. · The contract of the law CrossSelf. Conditions: none. · The contracts of the document's answers on points and segments. Conditions: points that may be. · Points on segments: an end that is on the other segment is in the meeting; a common part is on both. Conditions: those in each statement. · The document's meeting of two segments is the same. Conditions: those in each statement. · The contract of the document's meeting of segments that are not parallel. Conditions: points that may be. · The contract of the document's meeting of parallel segments. Conditions: points that may be. · The contract of the document's meeting of segments that are not parallel. Conditions: points that may be. · The contracts of the document's meeting, of its ends, and of their comparison with the program's. Conditions: none but those in each statement.
-/
import Derived.Test.YtllaijapijinoaaB4
import Derived.Test.YtllaijapijinoaaB5
set_option linter.all false
namespace Go.Proofs.Ytllaijapijinoaa
open Go.Cw
set_option linter.unusedVariables false

theorem mn_bd {p q : Int} (hp : Bd 134217728 p) (hq : Bd 134217728 q) : Bd 134217728 (mnE p q) := by unfold mnE; split <;> assumption
theorem mx_bd {p q : Int} (hp : Bd 134217728 p) (hq : Bd 134217728 q) : Bd 134217728 (mxE p q) := by unfold mxE; split <;> assumption
abbrev pts8 (a b c d : Pt) : List AV := [i64 a.x, i64 a.y, i64 b.x, i64 b.y, i64 c.x, i64 c.y, i64 d.x, i64 d.y]
def ix2 : Nat → Int
  | 0 => 0
  | 1 => 2
  | _ => 4
def placesS (a b c d : Pt) (xn xd yn yd : Int) (k : Nat) : St :=
  ⟨[(1, .ptr 0 0), (3, .ptr 1 0), (4, i64 (ix2 k))], [(0, .cells 53 (pts8 a b c d)), (1, .cells 60 (mt1c xn xd yn yd))], 2⟩
set_option maxRecDepth 100000 in
set_option maxHeartbeats 8000000 in
theorem places_walk {a b c d : Pt} {xn xd yn yd : Int} (ra : rt a = true) (rb : rt b = true) (rc : rt c = true) (rd : rt d = true) (g : GoodM (.place xn xd yn yd))
    (hM : Ret Try.prog 24 [] [pt a.x a.y, pt b.x b.y, pt c.x c.y, pt d.x d.y] (mt1 xn xd yn yd) [])
    (x1 : Bet xn xd a.x b.x) (y1 : Bet yn yd a.y b.y) (x2 : Bet xn xd c.x d.x) (y2 : Bet yn yd c.y d.y) :
    Ret Try.prog 9 [] [.ag (pts8 a b c d)] (.bool true) [] := by
  have ka := rt_bd ra
  have kb := rt_bd rb
  have kc := rt_bd rc
  have kd := rt_bd rd
  refine ret_cut [2] Try.func9 rfl rfl rfl ?_
  refine RC.use hM rfl ?_
  refine ⟨⟨[(1, .ptr 0 0), (3, .ptr 1 0)], [(0, .cells 53 (pts8 a b c d)), (1, .cells 60 (mt1c xn xd yn yd))], 2⟩, [(0, 0), (1, 1)], ⟨rfl, rfl, rfl, ⟨rfl, rfl, rfl, rfl, trivial⟩, ⟨rfl, rfl, rfl, rfl, trivial⟩⟩, ?_⟩
  refine ⟨Nat, placesS a b c d xn xd yn yd, fun k => k ≤ 2, fun k => 2 - k, 0, [(0, 0), (1, 1)], Nat.zero_le _, ⟨rfl, rfl, rfl, ⟨rfl, rfl, rfl, rfl, rfl, rfl, trivial⟩, ⟨rfl, rfl, rfl, rfl, trivial⟩⟩, ?_⟩
  intro k hk
  have hk : k ≤ 2 := hk
  have : k = 0 ∨ k = 1 ∨ k = 2 := by omega
  rcases this with rfl | rfl | rfl
  · refine CL.yes (by kernel_rfl) ?_
    refine RC.use (fracOf_ret (mnE a.x b.x) ((mn_bd ka.1 kb.1).i (by decide))) rfl ?_
    refine RC.use (fracCmp_of (good_one (mn_bd ka.1 kb.1)) g.1) rfl ?_
    refine BM.split (fun h => ?_) (fun _ => ?_)
    · exact absurd (h.symm.trans (bet_lo x1)) (by decide)
    refine RC.use (fracOf_ret (mxE a.x b.x) ((mx_bd ka.1 kb.1).i (by decide))) rfl ?_
    refine RC.use (fracCmp_of g.1 (good_one (mx_bd ka.1 kb.1))) rfl ?_
    refine BM.split (fun h => ?_) (fun _ => ?_)
    · exact absurd (h.symm.trans (bet_hi x1)) (by decide)
    refine RC.use (fracOf_ret (mnE a.y b.y) ((mn_bd ka.2 kb.2).i (by decide))) rfl ?_
    refine RC.use (fracCmp_of (good_one (mn_bd ka.2 kb.2)) g.2) rfl ?_
    refine BM.split (fun h => ?_) (fun _ => ?_)
    · exact absurd (h.symm.trans (bet_lo y1)) (by decide)
    refine RC.use (fracOf_ret (mxE a.y b.y) ((mx_bd ka.2 kb.2).i (by decide))) rfl ?_
    refine RC.use (fracCmp_of g.2 (good_one (mx_bd ka.2 kb.2))) rfl ?_
    refine CL.yes (by kernel_rfl) ?_
    refine BM.split (fun h => ?_) (fun _ => ?_)
    · exact absurd (h.symm.trans (bet_hi y1)) (by decide)
    exact ⟨1, [(0, 0), (1, 1)], (by decide : 1 ≤ 2), (by decide : 2 - 1 < 2 - 0), ⟨rfl, rfl, rfl, ⟨rfl, rfl, rfl, rfl, rfl, rfl, trivial⟩, ⟨rfl, rfl, rfl, rfl, trivial⟩⟩⟩
  · refine CL.yes (by kernel_rfl) ?_
    refine RC.use (fracOf_ret (mnE c.x d.x) ((mn_bd kc.1 kd.1).i (by decide))) rfl ?_
    refine RC.use (fracCmp_of (good_one (mn_bd kc.1 kd.1)) g.1) rfl ?_
    refine BM.split (fun h => ?_) (fun _ => ?_)
    · exact absurd (h.symm.trans (bet_lo x2)) (by decide)
    refine RC.use (fracOf_ret (mxE c.x d.x) ((mx_bd kc.1 kd.1).i (by decide))) rfl ?_
    refine RC.use (fracCmp_of g.1 (good_one (mx_bd kc.1 kd.1))) rfl ?_
    refine BM.split (fun h => ?_) (fun _ => ?_)
    · exact absurd (h.symm.trans (bet_hi x2)) (by decide)
    refine RC.use (fracOf_ret (mnE c.y d.y) ((mn_bd kc.2 kd.2).i (by decide))) rfl ?_
    refine RC.use (fracCmp_of (good_one (mn_bd kc.2 kd.2)) g.2) rfl ?_
    refine BM.split (fun h => ?_) (fun _ => ?_)
    · exact absurd (h.symm.trans (bet_lo y2)) (by decide)
    refine RC.use (fracOf_ret (mxE c.y d.y) ((mx_bd kc.2 kd.2).i (by decide))) rfl ?_
    refine RC.use (fracCmp_of g.2 (good_one (mx_bd kc.2 kd.2))) rfl ?_
    refine CL.yes (by kernel_rfl) ?_
    refine BM.split (fun h => ?_) (fun _ => ?_)
    · exact absurd (h.symm.trans (bet_hi y2)) (by decide)
    exact ⟨2, [(0, 0), (1, 1)], (by decide : 2 ≤ 2), (by decide : 2 - 2 < 2 - 1), ⟨rfl, rfl, rfl, ⟨rfl, rfl, rfl, rfl, rfl, rfl, trivial⟩, ⟨rfl, rfl, rfl, rfl, trivial⟩⟩⟩
  · refine RC.use alive_ret rfl ?_
    refine RC.use (fracRight_pos xn xd g.1.1 (g.1.2.1.w (by decide))) rfl ?_
    refine RC.use (fracRight_pos yn yd g.2.1 (g.2.2.1.w (by decide))) rfl ?_
    exact ⟨rfl, rfl, trivial⟩
set_option maxRecDepth 100000 in
set_option maxHeartbeats 8000000 in
theorem places_no {a b c d : Pt} (hM : Ret Try.prog 24 [] [pt a.x a.y, pt b.x b.y, pt c.x c.y, pt d.x d.y] mt0 []) :
    Ret Try.prog 9 [] [.ag (pts8 a b c d)] (.bool true) [] := by
  refine ret_of Try.func9 rfl rfl rfl ?_
  refine RC.use hM rfl ?_
  refine RC.use alive_ret rfl ?_
  exact ⟨rfl, rfl, trivial⟩
set_option maxRecDepth 100000 in
set_option maxHeartbeats 8000000 in
theorem places_along {a b c d : Pt} {p0 p1 q0 q1 : Int} (hM : Ret Try.prog 24 [] [pt a.x a.y, pt b.x b.y, pt c.x c.y, pt d.x d.y] (mt2 p0 p1 q0 q1) []) :
    Ret Try.prog 9 [] [.ag (pts8 a b c d)] (.bool true) [] := by
  refine ret_of Try.func9 rfl rfl rfl ?_
  refine RC.use hM rfl ?_
  refine RC.use alive_ret rfl ?_
  exact ⟨rfl, rfl, trivial⟩
theorem places_ret (a b c d : Pt) : Ret Try.prog 9 [] [.ag (pts8 a b c d)] (.bool true) [] := by
  have hm := meet_ret a b c d
  have hg := meetF_good a b c d
  cases hM : meetF a b c d with
  | no => rw [hM] at hm; exact places_no hm
  | along p q => rw [hM] at hm; exact places_along hm
  | place xn xd yn yd =>
    have hr := meetF_rt (a := a) (b := b) (c := c) (d := d) (by rw [hM]; intro e; cases e)
    have h1 := meet_bet hM
    have h2 := meet_bet ((meetF_sw a b c d).trans hM)
    rw [hM] at hm hg
    exact places_walk hr.1 hr.2.1 hr.2.2.1 hr.2.2.2 hg hm h1.1 h1.2 h2.1 h2.2

end Go.Proofs.Ytllaijapijinoaa

namespace Go.Proofs.Ytllaijapijinoaa
open Go.Cw
set_option linter.unusedVariables false

theorem refRight_ret (p : Pt) : Ret Try.prog 16 [] [pt p.x p.y] (.bool (rt p)) [] := by
  refine ret_of Try.func16 rfl rfl rfl ?_
  refine BM.split (fun h1 => ?_) (fun h1 => ?_)
  · have h1 : decide (p.x ≤ 134217728) = true := h1
    refine BM.split (fun h2 => ?_) (fun h2 => ?_)
    · have h2 : decide (p.y ≤ 134217728) = true := h2
      refine BM.split (fun h3 => ?_) (fun h3 => ?_)
      · have h3 : decide (p.x ≥ -134217728) = true := h3
        exact ⟨eq2 (.bool (decide (p.y ≥ -134217728))) (by simp only [rt, inB, h1, h2, h3, Bool.true_and, Bool.and_true]) rfl, rfl, trivial⟩
      · have h3 : decide (p.x ≥ -134217728) = false := h3
        exact ⟨eq2 (.bool false) (by simp only [rt, inB, h3, Bool.false_and]) rfl, rfl, trivial⟩
    · have h2 : decide (p.y ≤ 134217728) = false := h2
      exact ⟨eq2 (.bool false) (by simp only [rt, inB, h2, Bool.and_false]) rfl, rfl, trivial⟩
  · have h1 : decide (p.x ≤ 134217728) = false := h1
    exact ⟨eq2 (.bool false) (by simp only [rt, inB, h1, Bool.and_false, Bool.false_and]) rfl, rfl, trivial⟩
theorem refRight_of {p : Pt} {t : Bool} (h : rt p = t) : Ret Try.prog 16 [] [pt p.x p.y] (.bool t) [] := by
  subst h; exact refRight_ret p
abbrev ptC (p : Pt) : ABlk := .cells 27 [i64 p.x, i64 p.y]
abbrev mt2c (px py qx qy : Int) : List AV := [i64 2, i64 0, u64 0, i64 0, u64 0, i64 0, u64 0, i64 0, u64 0, i64 px, i64 py, i64 qx, i64 qy]
def selfS (a b c p q : Pt) : St :=
  ⟨[(2, .ptr 0 0), (3, .ptr 1 0), (5, .ptr 2 0), (6, .ptr 3 0)], [(0, ptC a), (1, ptC b), (2, .cells 60 (mt2c p.x p.y q.x q.y)), (3, ptC c)], 4⟩
def selfS2 (a b c p q : Pt) : St :=
  ⟨[(2, .ptr 0 0), (3, .ptr 1 0), (5, .ptr 2 0), (6, .ptr 3 0), (7, .ptr 4 0), (8, .ptr 5 0)], [(0, ptC a), (1, ptC b), (2, .cells 60 (mt2c p.x p.y q.x q.y)), (3, ptC c),
    (4, .cells 60 (mt1c b.x 1 b.y 1)), (5, .cells 60 (mt2c p.x p.y q.x q.y))], 6⟩
theorem ptNe {a b : Pt} (h : a ≠ b) : (a.x == b.x && (a.y == b.y && true)) = false := by rw [ptB]; simpa using h
theorem ptSame (a : Pt) : (a.x == a.x && (a.y == a.y && true)) = true := by simp
theorem ptNe' {a b : Pt} (h : a ≠ b) : (!(a.x == b.x && (a.y == b.y && true))) = true := by rw [ptNe h]; rfl
theorem ptSame' (a : Pt) : (!(a.x == a.x && (a.y == a.y && true))) = false := by rw [ptSame]; rfl
set_option maxRecDepth 100000 in
set_option maxHeartbeats 8000000 in
theorem self_up {a b : Pt} (ra : rt a = true) (rb : rt b = true) (h : a ≠ b) (eP : lo a b = a) (eQ : hi a b = b) :
    Ret Try.prog 10 [] [pt a.x a.y, pt b.x b.y] (.bool true) [] := by
  have h' : b ≠ a := fun e => h e.symm
  have m0 := meet_of a b b a (self_meet ra rb h)
  have e0 := ends_of a b b a (self_ends ra rb h)
  rw [eP, eQ] at m0
  have ka := rt_bd ra
  have kb := rt_bd rb
  have ex : IntKind.wrap .i64 (IntKind.wrap .i64 (2 * b.x) - a.x) = (dbl a b).x := by
    obtain ⟨⟨_, _⟩, _⟩ := ka; obtain ⟨⟨_, _⟩, _⟩ := kb
    rw [IntKind.wrap_i64, IntKind.wrap_i64]; simp only [dbl]; omega
  have ey : IntKind.wrap .i64 (IntKind.wrap .i64 (2 * b.y) - a.y) = (dbl a b).y := by
    obtain ⟨_, _, _⟩ := ka; obtain ⟨_, _, _⟩ := kb
    rw [IntKind.wrap_i64, IntKind.wrap_i64]; simp only [dbl]; omega
  refine ret_cut [4, 1, 1, 1] Try.func10 rfl rfl rfl ?_
  refine RC.use (refRight_of ra) rfl ?_
  refine RC.use (refRight_of rb) rfl ?_
  refine BM.split (fun k => ?_) (fun _ => ?_)
  · exact absurd (k.symm.trans (ptNe h)) (by decide)
  refine RC.use m0 rfl ?_
  refine ⟨selfS a b (dbl a b) a b, [(0, 0), (1, 1), (2, 2), (3, 3)], ⟨rfl, rfl, rfl, ⟨rfl, rfl, rfl, rfl, rfl, rfl, rfl, rfl, trivial⟩, ⟨rfl, rfl, rfl, rfl, rfl, rfl, (show ABlk.cells 27 [i64 (IntKind.wrap .i64 (IntKind.wrap .i64 (2 * b.x) - a.x)), i64 (IntKind.wrap .i64 (IntKind.wrap .i64 (2 * b.y) - a.y))] = ptC (dbl a b) by rw [ex, ey]), rfl, trivial⟩⟩, ?_⟩
  refine RC.use e0 rfl ?_
  refine BM.split (fun k => ?_) (fun _ => ?_)
  · exact absurd (k.symm.trans (ptNe h)) (by decide)
  refine BM.split (fun k => ?_) (fun _ => ?_)
  · exact absurd (k.symm.trans (ptSame' a)) (by decide)
  refine BM.split (fun _ => ?_) (fun k => ?_)
  rotate_left
  · exact absurd ((ptNe' h').symm.trans k) (by decide)
  refine BM.split (fun k => ?_) (fun _ => ?_)
  · exact absurd (k.symm.trans (ptSame' b)) (by decide)
  refine ⟨selfS a b (dbl a b) a b, [(0, 0), (1, 1), (2, 2), (3, 3)], ⟨rfl, rfl, rfl, ⟨rfl, rfl, rfl, rfl, rfl, rfl, rfl, rfl, trivial⟩, ⟨rfl, rfl, rfl, rfl, rfl, rfl, rfl, rfl, trivial⟩⟩, ?_⟩
  refine RC.use (refRight_ret (dbl a b)) rfl ?_
  refine BM.split (fun k => ?_) (fun k => ?_)
  · refine RC.use alive_ret rfl ?_
    exact ⟨rfl, rfl, trivial⟩
  have k : (!rt (dbl a b)) = false := k
  have rc : rt (dbl a b) = true := by simpa using k
  have m1 := meet_of a b b (dbl a b) (next_meet ra rb rc h)
  have e1 := ends_of a b b (dbl a b) (next_ends ra rb rc h)
  have m2 := meet_of a (dbl a b) b a (half_meet ra rb rc h)
  have e2 := ends_of a (dbl a b) b a (half_ends ra rb rc h)
  rw [eP, eQ] at m2
  have o := one_ret (M := .along a b) trivial
  refine ⟨selfS a b (dbl a b) a b, [(0, 0), (1, 1), (2, 2), (3, 3)], ⟨rfl, rfl, rfl, ⟨rfl, rfl, rfl, rfl, rfl, rfl, rfl, rfl, trivial⟩, ⟨rfl, rfl, rfl, rfl, rfl, rfl, rfl, rfl, trivial⟩⟩, ?_⟩
  refine RC.use m1 rfl ?_
  refine RC.use m2 rfl ?_
  refine CL.yes (by kernel_rfl) ?_
  refine ⟨selfS2 a b (dbl a b) a b, [(0, 0), (1, 1), (2, 2), (3, 3), (4, 4), (5, 5)], ⟨rfl, rfl, rfl, ⟨rfl, rfl, rfl, rfl, rfl, rfl, rfl, rfl, rfl, rfl, rfl, rfl, trivial⟩, ⟨rfl, rfl, rfl, rfl, rfl, rfl, rfl, rfl, rfl, rfl, rfl, rfl, trivial⟩⟩, ?_⟩
  refine RC.use alive_ret rfl ?_
  refine RC.use (fracOf_ret b.x (kb.1.i (by decide))) rfl ?_
  refine RC.use (fracCmp_refl (good_one kb.1)) rfl ?_
  refine RC.use (fracOf_ret b.y (kb.2.i (by decide))) rfl ?_
  refine RC.use (fracCmp_refl (good_one kb.2)) rfl ?_
  refine RC.use e1 rfl ?_
  refine RC.use o rfl ?_
  refine RC.use e2 rfl ?_
  refine CL.yes (by kernel_rfl) ?_
  exact ⟨rfl, rfl, trivial⟩
set_option maxRecDepth 100000 in
set_option maxHeartbeats 8000000 in
theorem self_down {a b : Pt} (ra : rt a = true) (rb : rt b = true) (h : a ≠ b) (eP : lo a b = b) (eQ : hi a b = a) :
    Ret Try.prog 10 [] [pt a.x a.y, pt b.x b.y] (.bool true) [] := by
  have h' : b ≠ a := fun e => h e.symm
  have m0 := meet_of a b b a (self_meet ra rb h)
  have e0 := ends_of a b b a (self_ends ra rb h)
  rw [eP, eQ] at m0
  have ka := rt_bd ra
  have kb := rt_bd rb
  have ex : IntKind.wrap .i64 (IntKind.wrap .i64 (2 * b.x) - a.x) = (dbl a b).x := by
    obtain ⟨⟨_, _⟩, _⟩ := ka; obtain ⟨⟨_, _⟩, _⟩ := kb
    rw [IntKind.wrap_i64, IntKind.wrap_i64]; simp only [dbl]; omega
  have ey : IntKind.wrap .i64 (IntKind.wrap .i64 (2 * b.y) - a.y) = (dbl a b).y := by
    obtain ⟨_, _, _⟩ := ka; obtain ⟨_, _, _⟩ := kb
    rw [IntKind.wrap_i64, IntKind.wrap_i64]; simp only [dbl]; omega
  refine ret_cut [4, 1, 1, 1] Try.func10 rfl rfl rfl ?_
  refine RC.use (refRight_of ra) rfl ?_
  refine RC.use (refRight_of rb) rfl ?_
  refine BM.split (fun k => ?_) (fun _ => ?_)
  · exact absurd (k.symm.trans (ptNe h)) (by decide)
  refine RC.use m0 rfl ?_
  refine ⟨selfS a b (dbl a b) b a, [(0, 0), (1, 1), (2, 2), (3, 3)], ⟨rfl, rfl, rfl, ⟨rfl, rfl, rfl, rfl, rfl, rfl, rfl, rfl, trivial⟩, ⟨rfl, rfl, rfl, rfl, rfl, rfl, (show ABlk.cells 27 [i64 (IntKind.wrap .i64 (IntKind.wrap .i64 (2 * b.x) - a.x)), i64 (IntKind.wrap .i64 (IntKind.wrap .i64 (2 * b.y) - a.y))] = ptC (dbl a b) by rw [ex, ey]), rfl, trivial⟩⟩, ?_⟩
  refine RC.use e0 rfl ?_
  refine BM.split (fun k => ?_) (fun _ => ?_)
  · exact absurd (k.symm.trans (ptNe h')) (by decide)
  refine BM.split (fun _ => ?_) (fun k => ?_)
  rotate_left
  · exact absurd ((ptNe' h').symm.trans k) (by decide)
  refine BM.split (fun k => ?_) (fun _ => ?_)
  · exact absurd (k.symm.trans (ptSame' b)) (by decide)
  refine BM.split (fun k => ?_) (fun _ => ?_)
  · exact absurd (k.symm.trans (ptSame' a)) (by decide)
  refine ⟨selfS a b (dbl a b) b a, [(0, 0), (1, 1), (2, 2), (3, 3)], ⟨rfl, rfl, rfl, ⟨rfl, rfl, rfl, rfl, rfl, rfl, rfl, rfl, trivial⟩, ⟨rfl, rfl, rfl, rfl, rfl, rfl, rfl, rfl, trivial⟩⟩, ?_⟩
  refine RC.use (refRight_ret (dbl a b)) rfl ?_
  refine BM.split (fun k => ?_) (fun k => ?_)
  · refine RC.use alive_ret rfl ?_
    exact ⟨rfl, rfl, trivial⟩
  have k : (!rt (dbl a b)) = false := k
  have rc : rt (dbl a b) = true := by simpa using k
  have m1 := meet_of a b b (dbl a b) (next_meet ra rb rc h)
  have e1 := ends_of a b b (dbl a b) (next_ends ra rb rc h)
  have m2 := meet_of a (dbl a b) b a (half_meet ra rb rc h)
  have e2 := ends_of a (dbl a b) b a (half_ends ra rb rc h)
  rw [eP, eQ] at m2
  have o := one_ret (M := .along b a) trivial
  refine ⟨selfS a b (dbl a b) b a, [(0, 0), (1, 1), (2, 2), (3, 3)], ⟨rfl, rfl, rfl, ⟨rfl, rfl, rfl, rfl, rfl, rfl, rfl, rfl, trivial⟩, ⟨rfl, rfl, rfl, rfl, rfl, rfl, rfl, rfl, trivial⟩⟩, ?_⟩
  refine RC.use m1 rfl ?_
  refine RC.use m2 rfl ?_
  refine CL.yes (by kernel_rfl) ?_
  refine ⟨selfS2 a b (dbl a b) b a, [(0, 0), (1, 1), (2, 2), (3, 3), (4, 4), (5, 5)], ⟨rfl, rfl, rfl, ⟨rfl, rfl, rfl, rfl, rfl, rfl, rfl, rfl, rfl, rfl, rfl, rfl, trivial⟩, ⟨rfl, rfl, rfl, rfl, rfl, rfl, rfl, rfl, rfl, rfl, rfl, rfl, trivial⟩⟩, ?_⟩
  refine RC.use alive_ret rfl ?_
  refine RC.use (fracOf_ret b.x (kb.1.i (by decide))) rfl ?_
  refine RC.use (fracCmp_refl (good_one kb.1)) rfl ?_
  refine RC.use (fracOf_ret b.y (kb.2.i (by decide))) rfl ?_
  refine RC.use (fracCmp_refl (good_one kb.2)) rfl ?_
  refine RC.use e1 rfl ?_
  refine RC.use o rfl ?_
  refine RC.use e2 rfl ?_
  refine CL.yes (by kernel_rfl) ?_
  exact ⟨rfl, rfl, trivial⟩
set_option maxRecDepth 100000 in
theorem self_out {a b : Pt} (h : rt a = false ∨ rt b = false ∨ a = b) : Ret Try.prog 10 [] [pt a.x a.y, pt b.x b.y] (.bool true) [] := by
  cases ra : rt a
  · refine ret_of Try.func10 rfl rfl rfl ?_
    refine RC.use (refRight_of ra) rfl ?_
    refine RC.use alive_ret rfl ?_
    exact ⟨rfl, rfl, trivial⟩
  cases rb : rt b
  · refine ret_of Try.func10 rfl rfl rfl ?_
    refine RC.use (refRight_of ra) rfl ?_
    refine RC.use (refRight_of rb) rfl ?_
    refine RC.use alive_ret rfl ?_
    exact ⟨rfl, rfl, trivial⟩
  have e : a = b := by
    rcases h with h | h | h
    · rw [ra] at h; cases h
    · rw [rb] at h; cases h
    · exact h
  refine ret_of Try.func10 rfl rfl rfl ?_
  refine RC.use (refRight_of ra) rfl ?_
  refine RC.use (refRight_of rb) rfl ?_
  refine BM.split (fun _ => ?_) (fun k => ?_)
  · refine RC.use alive_ret rfl ?_
    exact ⟨rfl, rfl, trivial⟩
  · have k : (a.x == b.x && (a.y == b.y && true)) = false := k
    rw [e, ptSame] at k
    cases k
theorem self_ret (a b : Pt) : Ret Try.prog 10 [] [pt a.x a.y, pt b.x b.y] (.bool true) [] := by
  cases ra : rt a
  · exact self_out (.inl ra)
  cases rb : rt b
  · exact self_out (.inr (.inl rb))
  by_cases h : a = b
  · exact self_out (.inr (.inr h))
  rcases pcmp_cases a b with ⟨q, _⟩ | ⟨q, r⟩ | ⟨q, _⟩
  · exact self_up ra rb h ((lohi a b).1 q).1 ((lohi a b).1 q).2
  · exact absurd ((Pt.eq_iff a b).2 r) h
  · exact self_down ra rb h ((lohi a b).2 q).1 ((lohi a b).2 q).2

end Go.Proofs.Ytllaijapijinoaa

namespace Go.Proofs.Ytllaijapijinoaa
open Go.Cw
set_option linter.unusedVariables false

theorem ref4Right_in {p : Pt} (h : rt p = true) : Ret Try.prog 74 [] [pt p.x p.y] (.bool true) [] := by
  have hb := (rt_iff p).1 h
  refine ret_of Try.func74 rfl rfl rfl ?_
  refine BM.split (fun _ => ?_) (fun h1 => ?_)
  · refine BM.split (fun _ => ?_) (fun h1 => ?_)
    · refine BM.split (fun _ => ?_) (fun h1 => ?_)
      · exact ⟨eq2 (.bool (decide (p.y ≥ -536870912))) (by
          have : p.y ≥ -536870912 := by omega
          simp [this]) rfl, rfl, trivial⟩
      · have h1 : decide (p.x ≥ -536870912) = false := h1
        exact absurd (show p.x ≥ -536870912 by omega) (by simpa using h1)
    · have h1 : decide (p.y ≤ 536870912) = false := h1
      exact absurd (show p.y ≤ 536870912 by omega) (by simpa using h1)
  · have h1 : decide (p.x ≤ 536870912) = false := h1
    exact absurd (show p.x ≤ 536870912 by omega) (by simpa using h1)
def detF (a b : Pt) : Int := a.x * b.y - a.y * b.x
theorem det_bd {a b : Pt} (ha : rt a = true) (hb : rt b = true) : Bd 18014398509481984 (a.x * b.y) ∧ Bd 18014398509481984 (a.y * b.x) := by
  have a1 := rt_bd ha
  have b1 := rt_bd hb
  exact ⟨a1.1.mul b1.2, a1.2.mul b1.1⟩
theorem det_wrap {a b : Pt} (ha : rt a = true) (hb : rt b = true) : IntKind.wrap .i64 (IntKind.wrap .i64 (a.x * b.y) - IntKind.wrap .i64 (a.y * b.x)) = detF a b := by
  have h := det_bd ha hb
  obtain ⟨⟨c1, c2⟩, ⟨c3, c4⟩⟩ := h
  unfold detF
  simp only [IntKind.wrap_i64]
  generalize a.x * b.y = u at *
  generalize a.y * b.x = v at *
  omega
theorem ref4Det_ret {a b : Pt} (ha : rt a = true) (hb : rt b = true) : Ret Try.prog 106 [] [pt a.x a.y, pt b.x b.y] (i64 (detF a b)) [] := by
  refine ret_of Try.func106 rfl rfl rfl ?_
  exact ⟨eq2 (i64 (IntKind.wrap .i64 (IntKind.wrap .i64 (a.x * b.y) - IntKind.wrap .i64 (a.y * b.x)))) (by rw [det_wrap ha hb]) rfl, rfl, trivial⟩
theorem ref4Cross_ret {o a b : Pt} (ho : rt o = true) (ha : rt a = true) (hb : rt b = true) : Ret Try.prog 75 [] [pt o.x o.y, pt a.x a.y, pt b.x b.y] (i64 (crs o a b)) [] := by
  refine ret_of Try.func75 rfl rfl rfl ?_
  refine RC.use (ref4Right_in ho) rfl ?_
  refine RC.use (ref4Right_in ha) rfl ?_
  refine RC.use (ref4Right_in hb) rfl ?_
  refine RC.use (ref4Det_ret ho ha) rfl ?_
  refine RC.use (ref4Det_ret ha hb) rfl ?_
  refine RC.use (ref4Det_ret hb ho) rfl ?_
  refine CL.yes (by kernel_rfl) ?_
  exact ⟨eq2 (i64 (IntKind.wrap .i64 (IntKind.wrap .i64 (detF o a + detF a b) + detF b o))) (by
    have e : crs o a b = detF o a + detF a b + detF b o := by simp only [crs, detF]; grind
    obtain ⟨⟨_, _⟩, ⟨_, _⟩⟩ := det_bd ho ha
    obtain ⟨⟨_, _⟩, ⟨_, _⟩⟩ := det_bd ha hb
    obtain ⟨⟨_, _⟩, ⟨_, _⟩⟩ := det_bd hb ho
    rw [e, IntKind.wrap_i64, IntKind.wrap_i64]
    unfold detF
    congr 1
    omega) rfl, rfl, trivial⟩
def btw (n a b : Int) : Bool := (decide (a ≤ n) && decide (n ≤ b)) || (decide (b ≤ n) && decide (n ≤ a))
theorem ref4Between_ret (n a b : Int) : Ret Try.prog 76 [] [i64 n, i64 a, i64 b] (.bool (btw n a b)) [] := by
  refine ret_of Try.func76 rfl rfl rfl ?_
  refine BM.split (fun h1 => ?_) (fun h1 => ?_)
  · have h1 : decide (a ≤ n) = true := h1
    refine BM.split (fun h2 => ?_) (fun h2 => ?_)
    · have h2 : decide (n ≤ b) = true := h2
      exact ⟨eq2 (.bool true) (by simp only [btw, h1, h2, Bool.and_self, Bool.true_or]) rfl, rfl, trivial⟩
    · have h2 : decide (n ≤ b) = false := h2
      refine BM.split (fun h3 => ?_) (fun h3 => ?_)
      · have h3 : decide (b ≤ n) = true := h3
        exact ⟨eq2 (.bool (decide (n ≤ a))) (by simp only [btw, h1, h2, h3, Bool.and_false, Bool.true_and, Bool.false_or]) rfl, rfl, trivial⟩
      · have h3 : decide (b ≤ n) = false := h3
        exact ⟨eq2 (.bool false) (by simp only [btw, h1, h2, h3, Bool.and_false, Bool.false_and, Bool.or_self]) rfl, rfl, trivial⟩
  · have h1 : decide (a ≤ n) = false := h1
    refine BM.split (fun h3 => ?_) (fun h3 => ?_)
    · have h3 : decide (b ≤ n) = true := h3
      exact ⟨eq2 (.bool (decide (n ≤ a))) (by simp only [btw, h1, h3, Bool.false_and, Bool.true_and, Bool.false_or]) rfl, rfl, trivial⟩
    · have h3 : decide (b ≤ n) = false := h3
      exact ⟨eq2 (.bool false) (by simp only [btw, h1, h3, Bool.false_and, Bool.or_self]) rfl, rfl, trivial⟩
theorem on4_eq (p a b : Pt) : onF p a b = ((crs a p b == 0) && (btw p.x a.x b.x && btw p.y a.y b.y)) := by
  have e : crs a p b = -crs a b p := by simp only [crs]; grind
  unfold onF holdsF btw
  rw [e, Bool.eq_iff_iff]
  simp only [Bool.and_eq_true, Bool.or_eq_true, decide_eq_true_eq, beq_iff_eq]
  omega
theorem ref4On_ret {p a b : Pt} (hp : rt p = true) (ha : rt a = true) (hb : rt b = true) : Ret Try.prog 32 [] [pt p.x p.y, pt a.x a.y, pt b.x b.y] (.bool (onF p a b)) [] := by
  refine ret_of Try.func32 rfl rfl rfl ?_
  refine RC.use (ref4Right_in hp) rfl ?_
  refine RC.use (ref4Right_in ha) rfl ?_
  refine RC.use (ref4Right_in hb) rfl ?_
  refine RC.use (ref4Cross_ret ha hp hb) rfl ?_
  refine BM.split (fun h1 => ?_) (fun h1 => ?_)
  · have h1 : (crs a p b == 0) = true := h1
    refine RC.use (ref4Between_ret _ _ _) rfl ?_
    refine BM.split (fun h2 => ?_) (fun h2 => ?_)
    · have h2 : btw p.x a.x b.x = true := h2
      refine RC.use (ref4Between_ret _ _ _) rfl ?_
      exact ⟨eq2 (.bool (btw p.y a.y b.y)) (by rw [on4_eq, h1, h2, Bool.true_and, Bool.true_and]) rfl, rfl, trivial⟩
    · have h2 : btw p.x a.x b.x = false := h2
      exact ⟨eq2 (.bool false) (by rw [on4_eq, h1, h2, Bool.false_and, Bool.true_and]) rfl, rfl, trivial⟩
  · have h1 : (crs a p b == 0) = false := h1
    exact ⟨eq2 (.bool false) (by rw [on4_eq, h1, Bool.false_and]) rfl, rfl, trivial⟩
theorem ref4On_of {p a b : Pt} (hp : rt p = true) (ha : rt a = true) (hb : rt b = true) {t : Bool} (h : onF p a b = t) : Ret Try.prog 32 [] [pt p.x p.y, pt a.x a.y, pt b.x b.y] (.bool t) [] := by
  subst h; exact ref4On_ret hp ha hb
theorem fracCmp_zero {n0 d0 n1 d1 : Int} (h0 : GoodF n0 d0) (h1 : GoodF n1 d1) (e : cmp3 (n0 * d1) (n1 * d0) = 0) : Ret Try.prog 33 [] [fr n0 d0, fr n1 d1] (i64 0) [] := by
  have := fracCmp_of h0 h1
  rw [e] at this
  exact this

end Go.Proofs.Ytllaijapijinoaa

namespace Go.Proofs.Ytllaijapijinoaa
set_option linter.unusedVariables false

/-- By x, of one x by y. -/
def Lx (p q : Pt) : Prop := p.x < q.x ∨ (p.x = q.x ∧ p.y ≤ q.y)
theorem Lx.trans {p q r : Pt} (h : Lx p q) (h' : Lx q r) : Lx p r := by unfold Lx at *; omega
theorem Lx.refl (p : Pt) : Lx p p := .inr ⟨rfl, Int.le_refl _⟩
theorem Lx.antisymm {p q : Pt} (h : Lx p q) (h' : Lx q p) : p = q := by
  rw [Pt.eq_iff]; unfold Lx at *; omega
theorem lx_of_pcmp {p q : Pt} (h : pcmp p q ≠ 1) : Lx p q := by
  have := pcmp_cases p q
  unfold Lx; omega
theorem lx_of_pcmp' {p q : Pt} (h : pcmp p q ≠ -1) : Lx q p := by
  have := pcmp_cases p q
  unfold Lx; omega
theorem pcmp_of_lx {p q : Pt} (h : Lx p q) : pcmp p q ≠ 1 := by
  have := pcmp_cases p q
  unfold Lx at h; omega
theorem lo_lx (a b : Pt) : Lx (lo a b) a ∧ Lx (lo a b) b := by
  have := pcmp_cases a b
  unfold lo
  split
  · exact ⟨by unfold Lx; omega, .refl _⟩
  · exact ⟨.refl _, by unfold Lx; omega⟩
theorem hi_lx (a b : Pt) : Lx a (hi a b) ∧ Lx b (hi a b) := by
  have := pcmp_cases a b
  unfold hi
  split
  · exact ⟨.refl _, by unfold Lx; omega⟩
  · exact ⟨by unfold Lx; omega, .refl _⟩
theorem rowL_lx (a c : Pt) : Lx a (rowL a c) ∧ Lx c (rowL a c) := by
  have := pcmp_cases a c
  unfold rowL
  split
  · exact ⟨by unfold Lx; omega, .refl _⟩
  · exact ⟨.refl _, by unfold Lx; omega⟩
theorem rowH_lx (b d : Pt) : Lx (rowH b d) b ∧ Lx (rowH b d) d := by
  have := pcmp_cases b d
  unfold rowH
  split
  · exact ⟨by unfold Lx; omega, .refl _⟩
  · exact ⟨.refl _, by unfold Lx; omega⟩
theorem rowL_le {a c p : Pt} (h1 : Lx a p) (h2 : Lx c p) : Lx (rowL a c) p := by unfold rowL; split <;> assumption
theorem rowH_le {b d p : Pt} (h1 : Lx p b) (h2 : Lx p d) : Lx p (rowH b d) := by unfold rowH; split <;> assumption

theorem mul_between {u v w z : Int} (hu : 0 < u) (h0 : 0 ≤ v) (h1 : v ≤ u) (e : u * z = w * v) : (0 ≤ w → 0 ≤ z ∧ z ≤ w) ∧ (w ≤ 0 → w ≤ z ∧ z ≤ 0) := by
  constructor
  · intro hw
    have e1 := Int.mul_nonneg hw h0
    have e2 := Int.mul_nonneg hw (show 0 ≤ u - v by omega)
    have z0 : 0 ≤ z := by
      rcases Int.lt_or_le z 0 with q | q
      · have := Int.mul_neg_of_pos_of_neg hu q
        omega
      · exact q
    refine ⟨z0, ?_⟩
    rcases Int.lt_or_le w z with q | q
    · have := Int.mul_lt_mul_of_pos_left q hu
      have e3 : w * (u - v) = u * w - w * v := by grind
      omega
    · exact q
  · intro hw
    have e1 := Int.mul_nonneg (show 0 ≤ -w by omega) h0
    have e2 := Int.mul_nonneg (show 0 ≤ -w by omega) (show 0 ≤ u - v by omega)
    rw [Int.neg_mul] at e1 e2
    have z0 : z ≤ 0 := by
      rcases Int.lt_or_le 0 z with q | q
      · have := Int.mul_pos hu q
        omega
      · exact q
    refine ⟨?_, z0⟩
    rcases Int.lt_or_le z w with q | q
    · have := Int.mul_lt_mul_of_pos_left q hu
      have e3 : w * (u - v) = u * w - w * v := by grind
      omega
    · exact q
/-- In order on a line is in the box. -/
theorem box_of {A B p : Pt} (h1 : Lx A p) (h2 : Lx p B) (hc : crs A B p = 0) : holdsF A B p = true := by
  unfold holdsF
  simp only [Bool.and_eq_true, decide_eq_true_eq]
  unfold Lx at h1 h2
  rcases Int.lt_or_eq_of_le (show A.x ≤ B.x by omega) with hx | hx
  · have e : (B.x - A.x) * (p.y - A.y) = (B.y - A.y) * (p.x - A.x) := by unfold crs at hc; omega
    have := mul_between (show 0 < B.x - A.x by omega) (show 0 ≤ p.x - A.x by omega) (show p.x - A.x ≤ B.x - A.x by omega) e
    omega
  · omega
theorem on_of_lx {a b p : Pt} (hc : crs a b p = 0) (h1 : Lx (lo a b) p) (h2 : Lx p (hi a b)) : onF p a b = true := by
  rcases pcmp_cases a b with ⟨q, _⟩ | ⟨q, r⟩ | ⟨q, _⟩
  · rw [((lohi a b).1 q).1] at h1
    rw [((lohi a b).1 q).2] at h2
    unfold onF
    rw [box_of h1 h2 hc, hc]; rfl
  · have e : a = b := (Pt.eq_iff a b).2 r
    subst e
    have e1 : lo a a = a := by unfold lo; split <;> rfl
    have e2 : hi a a = a := by unfold hi; split <;> rfl
    rw [e1] at h1; rw [e2] at h2
    unfold onF
    rw [box_of h1 h2 hc, hc]; rfl
  · rw [((lohi a b).2 q).1] at h1
    rw [((lohi a b).2 q).2] at h2
    have hc' : crs b a p = 0 := by rw [crs_ab a b, hc]; rfl
    rw [on_ab p b a]
    unfold onF
    rw [box_of h1 h2 hc', hc']; rfl
theorem onF_iff (p a b : Pt) : onF p a b = true ↔ crs a b p = 0 ∧ (min a.x b.x ≤ p.x ∧ p.x ≤ max a.x b.x ∧ min a.y b.y ≤ p.y ∧ p.y ≤ max a.y b.y) := by
  unfold onF holdsF
  simp only [Bool.and_eq_true, decide_eq_true_eq, ge_iff_le]
theorem lx_of_on' {A B p : Pt} (hAB : Lx A B) (h : onF p A B = true) : Lx A p ∧ Lx p B := by
  obtain ⟨hc, hb⟩ := (onF_iff p A B).1 h
  unfold Lx at hAB
  have e : (B.x - A.x) * (p.y - A.y) = (B.y - A.y) * (p.x - A.x) := by unfold crs at hc; omega
  unfold Lx
  rcases Int.lt_or_eq_of_le (show A.x ≤ B.x by omega) with hx | hx
  · constructor
    · rcases Int.lt_or_eq_of_le (show A.x ≤ p.x by omega) with hp | hp
      · omega
      · rw [show p.x - A.x = 0 by omega, Int.mul_zero] at e
        have := Int.mul_eq_zero.1 e
        omega
    · rcases Int.lt_or_eq_of_le (show p.x ≤ B.x by omega) with hp | hp
      · omega
      · rw [show p.x - A.x = B.x - A.x by omega] at e
        have e2 : (B.x - A.x) * (p.y - B.y) = 0 := by grind
        have := Int.mul_eq_zero.1 e2
        omega
  · omega
theorem lx_of_on {a b p : Pt} (h : onF p a b = true) : Lx (lo a b) p ∧ Lx p (hi a b) := by
  rcases pcmp_cases a b with ⟨q, r⟩ | ⟨q, r⟩ | ⟨q, r⟩
  · rw [((lohi a b).1 q).1, ((lohi a b).1 q).2]
    exact lx_of_on' (by unfold Lx; omega) h
  · have e : a = b := (Pt.eq_iff a b).2 r
    subst e
    have e1 : lo a a = a := by unfold lo; split <;> rfl
    have e2 : hi a a = a := by unfold hi; split <;> rfl
    rw [e1, e2]
    exact lx_of_on' (.refl _) h
  · rw [((lohi a b).2 q).1, ((lohi a b).2 q).2]
    rw [on_ab p b a] at h
    exact lx_of_on' (by unfold Lx; omega) h
/-- Three points on a line of two are on a line. -/
theorem col3 {c d p q r : Pt} (hcd : c ≠ d) (hp : crs c d p = 0) (hq : crs c d q = 0) (hr : crs c d r = 0) : crs p q r = 0 := by
  have e1 : (d.x - c.x) * crs p q r = 0 := by
    have : (d.x - c.x) * crs p q r = (q.x - p.x) * crs c d r - (r.x - p.x) * crs c d q + (r.x - q.x) * crs c d p := by simp only [crs]; grind
    rw [this, hp, hq, hr]; omega
  have e2 : (d.y - c.y) * crs p q r = 0 := by
    have : (d.y - c.y) * crs p q r = (q.y - p.y) * crs c d r - (r.y - p.y) * crs c d q + (r.y - q.y) * crs c d p := by simp only [crs]; grind
    rw [this, hp, hq, hr]; omega
  rcases Int.mul_eq_zero.1 e1 with h | h
  · rcases Int.mul_eq_zero.1 e2 with h' | h'
    · exact absurd ((Pt.eq_iff c d).2 ⟨by omega, by omega⟩) hcd
    · exact h'
  · exact h
theorem rowL_or (a c : Pt) : rowL a c = a ∨ rowL a c = c := by unfold rowL; split <;> simp
theorem rowH_or (b d : Pt) : rowH b d = b ∨ rowH b d = d := by unfold rowH; split <;> simp

/-! ### An end on the other segment -/
/-- What it means that a point is in a meeting. -/
def InM (p : Pt) : MT → Prop
  | .no => False
  | .place xn xd yn yd => cmp3 (xn * 1) (p.x * xd) = 0 ∧ cmp3 (yn * 1) (p.y * yd) = 0
  | .along u v => onF p u v = true
theorem at_in (p : Pt) : InM p (atF p) := ⟨cmp3_eq (by omega), cmp3_eq (by omega)⟩
theorem row_in {a b c d : Pt} (hab : a ≠ b) (hcd : c ≠ d) (ha : crs c d a = 0) (hb : crs c d b = 0) (h : onF a c d = true) : InM a (rowF a b c d) := by
  have k := lx_of_on h
  have h1 : Lx (rowL (lo a b) (lo c d)) a := rowL_le (lo_lx a b).1 k.1
  have h2 : Lx a (rowH (hi a b) (hi c d)) := rowH_le (hi_lx a b).1 k.2
  have hL : crs c d (rowL (lo a b) (lo c d)) = 0 := by
    rcases rowL_or (lo a b) (lo c d) with e | e <;> rw [e]
    · rcases lo_or a b with e | e <;> rw [e] <;> assumption
    · rcases lo_or c d with e | e <;> rw [e]
      · exact crs_aba c d
      · exact crs_abb c d
  have hH : crs c d (rowH (hi a b) (hi c d)) = 0 := by
    rcases rowH_or (hi a b) (hi c d) with e | e <;> rw [e]
    · rcases hi_or a b with e | e <;> rw [e] <;> assumption
    · rcases hi_or c d with e | e <;> rw [e]
      · exact crs_aba c d
      · exact crs_abb c d
  unfold rowF
  generalize rowL (lo a b) (lo c d) = L at *
  generalize rowH (hi a b) (hi c d) = U at *
  unfold rowG
  split
  · rename_i hz
    have e := (pcmp_zero L U).1 hz
    subst e
    have e := Lx.antisymm h1 h2
    rw [e]
    exact at_in _
  · split
    · rename_i hz
      exact absurd hz (pcmp_of_lx (h1.trans h2))
    · show onF a L U = true
      have hc : crs L U a = 0 := col3 hcd hL hH ha
      unfold onF
      rw [box_of h1 h2 hc, hc]; rfl
theorem between_cross {u v B C : Int} (hB : B ≠ 0) (hu : u ≠ 0) (hv : (0 ≤ v ∧ v ≤ u) ∨ (u ≤ v ∧ v ≤ 0)) (e : u * C = v * B) : (0 ≤ C ∧ C ≤ B) ∨ (B ≤ C ∧ C ≤ 0) := by
  rcases Int.lt_or_gt_of_ne hu with q | q
  · have := mul_between (u := -u) (v := -v) (w := B) (z := C) (by omega) (by omega) (by omega) (by grind)
    rcases Int.lt_or_gt_of_ne hB with r | r
    · exact .inr (this.2 (by omega))
    · exact .inl (this.1 (by omega))
  · have := mul_between (u := u) (v := v) (w := B) (z := C) (by omega) (by omega) (by omega) (by grind)
    rcases Int.lt_or_gt_of_ne hB with r | r
    · exact .inr (this.2 (by omega))
    · exact .inl (this.1 (by omega))
theorem on_in {a b c d : Pt} (ra : rt a = true) (rb : rt b = true) (rc : rt c = true) (rd : rt d = true) (h : onF a c d = true) : InM a (meetF a b c d) := by
  obtain ⟨hA, hbox⟩ := (onF_iff a c d).1 h
  cases hn : crs c d a != crs c d b
  · rw [meetF_par ra rb rc rd hn]
    have hB : crs c d b = 0 := by
      have : crs c d a = crs c d b := by simpa using hn
      omega
    unfold parG
    by_cases hab : a = b
    · rw [if_pos ⟨hab, h⟩]; exact at_in a
    · rw [if_neg (by simp [hab]), if_neg (by simp [hab, hA])]
      by_cases hcd : c = d
      · subst hcd
        have e : a = c := (Pt.eq_iff a c).2 ⟨by omega, by omega⟩
        subst e
        have : onF a a b = true := (onF_iff a a b).2 ⟨crs_aba a b, by omega, by omega, by omega, by omega⟩
        rw [if_pos ⟨rfl, this⟩]; exact at_in a
      · have hC : crs a b c = 0 := col3 hcd hA hB (crs_aba c d)
        rw [if_neg (by simp [hcd]), if_neg (by simp [hcd, hC])]
        exact row_in hab hcd hA hB h
  · rw [meetF_lines ra rb rc rd hn]
    have hB : crs c d b ≠ 0 := by
      have : crs c d a ≠ crs c d b := by simpa using hn
      omega
    have hcd : c ≠ d := fun e => hB (by rw [e]; exact crs_aab d b)
    have e1 : (d.x - c.x) * crs a b c = (a.x - c.x) * crs c d b := by
      have : (d.x - c.x) * crs a b c = (a.x - c.x) * crs c d b - (b.x - c.x) * crs c d a := by simp only [crs]; grind
      rw [this, hA]; omega
    have e2 : (d.y - c.y) * crs a b c = (a.y - c.y) * crs c d b := by
      have : (d.y - c.y) * crs a b c = (a.y - c.y) * crs c d b - (b.y - c.y) * crs c d a := by simp only [crs]; grind
      rw [this, hA]; omega
    have hbt : (0 ≤ crs a b c ∧ crs a b c ≤ crs c d b) ∨ (crs c d b ≤ crs a b c ∧ crs a b c ≤ 0) := by
      by_cases hx : d.x - c.x = 0
      · have hy : d.y - c.y ≠ 0 := fun hy => hcd ((Pt.eq_iff c d).2 ⟨by omega, by omega⟩)
        exact between_cross hB hy (by omega) e2
      · exact between_cross hB hx (by omega) e1
    have w1 : within (crs c d a) (crs c d a - crs c d b) = true := by
      unfold within
      split <;> simp only [Bool.and_eq_true, decide_eq_true_eq] <;> omega
    have w2 : within (-crs a b c) (crs c d a - crs c d b) = true := by
      unfold within
      split <;> simp only [Bool.and_eq_true, decide_eq_true_eq] <;> omega
    unfold linesF
    rw [w1, w2]
    simp only [Bool.and_self, if_true]
    have hp : ∀ x y : Int, partN x y (crs c d a) (crs c d a - crs c d b) * 1 = x * nrmD (crs c d a - crs c d b) := fun x y => by
      rw [hA]
      unfold partN nrmN nrmD
      split <;> grind
    exact ⟨cmp3_eq (hp _ _), cmp3_eq (hp _ _)⟩

/-! ### A common part -/
theorem row_along {a b c d : Pt} (hab : a ≠ b) (hcd : c ≠ d) (ha : crs c d a = 0) (hb : crs c d b = 0) {u v : Pt} (e : rowF a b c d = .along u v) :
    (onF u a b = true ∧ onF u c d = true ∧ onF v a b = true ∧ onF v c d = true) ∧ (Lx u v ∧ u ≠ v) ∧ (u = a ∨ u = b ∨ u = c ∨ u = d) ∧ (v = a ∨ v = b ∨ v = c ∨ v = d) := by
  have hL : crs c d (rowL (lo a b) (lo c d)) = 0 := by
    rcases rowL_or (lo a b) (lo c d) with e | e <;> rw [e]
    · rcases lo_or a b with e | e <;> rw [e] <;> assumption
    · rcases lo_or c d with e | e <;> rw [e]
      · exact crs_aba c d
      · exact crs_abb c d
  have hH : crs c d (rowH (hi a b) (hi c d)) = 0 := by
    rcases rowH_or (hi a b) (hi c d) with e | e <;> rw [e]
    · rcases hi_or a b with e | e <;> rw [e] <;> assumption
    · rcases hi_or c d with e | e <;> rw [e]
      · exact crs_aba c d
      · exact crs_abb c d
  have oL : rowL (lo a b) (lo c d) = a ∨ rowL (lo a b) (lo c d) = b ∨ rowL (lo a b) (lo c d) = c ∨ rowL (lo a b) (lo c d) = d := by
    rcases rowL_or (lo a b) (lo c d) with e | e <;> rw [e]
    · rcases lo_or a b with e | e <;> simp [e]
    · rcases lo_or c d with e | e <;> simp [e]
  have oH : rowH (hi a b) (hi c d) = a ∨ rowH (hi a b) (hi c d) = b ∨ rowH (hi a b) (hi c d) = c ∨ rowH (hi a b) (hi c d) = d := by
    rcases rowH_or (hi a b) (hi c d) with e | e <;> rw [e]
    · rcases hi_or a b with e | e <;> simp [e]
    · rcases hi_or c d with e | e <;> simp [e]
  have l1 := rowL_lx (lo a b) (lo c d)
  have l2 := rowH_lx (hi a b) (hi c d)
  unfold rowF at e
  generalize rowL (lo a b) (lo c d) = L at *
  generalize rowH (hi a b) (hi c d) = U at *
  unfold rowG at e
  split at e
  · cases e
  split at e
  · cases e
  rename_i h0 h1
  cases e
  have hLU := lx_of_pcmp h1
  have ca : ∀ p, crs c d p = 0 → crs a b p = 0 := fun p hp => col3 hcd ha hb hp
  exact ⟨⟨on_of_lx (ca _ hL) l1.1 (hLU.trans l2.1), on_of_lx hL l1.2 (hLU.trans l2.2), on_of_lx (ca _ hH) (l1.1.trans hLU) l2.1, on_of_lx hH (l1.2.trans hLU) l2.2⟩,
    ⟨hLU, fun e => h0 ((pcmp_zero _ _).2 e)⟩, oL, oH⟩
theorem meet_along {a b c d u v : Pt} (e : meetF a b c d = .along u v) :
    (onF u a b = true ∧ onF u c d = true ∧ onF v a b = true ∧ onF v c d = true) ∧ (Lx u v ∧ u ≠ v) ∧ (u = a ∨ u = b ∨ u = c ∨ u = d) ∧ (v = a ∨ v = b ∨ v = c ∨ v = d) := by
  obtain ⟨ra, rb, rc, rd⟩ := meetF_rt (by rw [e]; intro q; cases q)
  cases h : crs c d a != crs c d b
  · rw [meetF_par ra rb rc rd h] at e
    have hAB : crs c d a = crs c d b := by simpa using h
    unfold parG at e
    split at e
    · cases e
    split at e
    · cases e
    split at e
    · cases e
    split at e
    · cases e
    rename_i h1 h2 h3 h4
    have hA : crs c d a = 0 := by
      apply Classical.byContradiction
      intro q; exact h2 (Or.inr q)
    exact row_along (fun q => h2 (Or.inl q)) (fun q => h4 (Or.inl q)) hA (by omega) e
  · rw [meetF_lines ra rb rc rd h] at e
    unfold linesF at e
    split at e <;> cases e

end Go.Proofs.Ytllaijapijinoaa

namespace Go.Proofs.Ytllaijapijinoaa
set_option linter.unusedVariables false

theorem w_eq (a b c d : Pt) : (b.y - a.y) * (c.x - d.x) + -((a.x - b.x) * (d.y - c.y)) = crs c d a - crs c d b := by simp only [crs]; grind
theorem x_eq (a b c d : Pt) : ((b.y - a.y) * a.x + (a.x - b.x) * a.y) * (c.x - d.x) + -((a.x - b.x) * ((d.y - c.y) * c.x + (c.x - d.x) * c.y)) = a.x * (crs c d a - crs c d b) + (b.x - a.x) * crs c d a := by simp only [crs]; grind
theorem y_eq (a b c d : Pt) : (b.y - a.y) * ((d.y - c.y) * c.x + (c.x - d.x) * c.y) + -(((b.y - a.y) * a.x + (a.x - b.x) * a.y) * (d.y - c.y)) = a.y * (crs c d a - crs c d b) + (b.y - a.y) * crs c d a := by simp only [crs]; grind
theorem btwF_iff (n d a b : Int) : btwF n d a b = true ↔ Bet n d a b := by
  unfold btwF Bet
  rw [Bool.and_eq_true, decide_eq_true_eq, decide_eq_true_eq]
  have h : ∀ x y : Int, cmp3 x y ≤ 0 ↔ x ≤ y := fun x y => by
    unfold cmp3
    split
    · omega
    · split <;> omega
  rw [h, h]
theorem bet_core' {a b n d : Int} (hab : a ≠ b) (h : Bet (a * d + (b - a) * n) d a b) : 0 ≤ n ∧ n ≤ d := by
  unfold Bet at h
  rcases Int.lt_or_gt_of_ne hab with r | r
  · have m1 : mnE a b = a := by unfold mnE; rw [if_neg (by omega)]
    have m2 : mxE a b = b := by unfold mxE; rw [if_pos r]
    rw [m1, m2] at h
    have h1 : 0 ≤ (b - a) * n := by omega
    have e2 : b * d = a * d + (b - a) * d := by grind
    have h2 : (b - a) * n ≤ (b - a) * d := by omega
    exact ⟨Int.nonneg_of_mul_nonneg_right h1 (by omega), Int.le_of_mul_le_mul_left h2 (by omega)⟩
  · have m1 : mnE a b = b := by unfold mnE; rw [if_pos r]
    have m2 : mxE a b = a := by unfold mxE; rw [if_neg (by omega)]
    rw [m1, m2] at h
    have e3 : (b - a) * n = -((a - b) * n) := by grind
    have e2 : b * d = a * d - (a - b) * d := by grind
    have h1 : 0 ≤ (a - b) * n := by omega
    have h2 : (a - b) * n ≤ (a - b) * d := by omega
    exact ⟨Int.nonneg_of_mul_nonneg_right h1 (by omega), Int.le_of_mul_le_mul_left h2 (by omega)⟩
theorem bet_within {a b n d : Int} (hd : d ≠ 0) (hab : a ≠ b) (h : Bet (partN a b n d) (nrmD d) a b) : within n d = true := by
  unfold within
  rcases Int.lt_or_gt_of_ne hd with q | q
  · have e1 : partN a b n d = -(a * d + (b - a) * n) := by unfold partN nrmN; rw [if_neg (by omega)]
    have e2 : nrmD d = -d := by unfold nrmD; rw [if_neg (by omega)]
    rw [e1, e2, show -(a * d + (b - a) * n) = a * -d + (b - a) * -n by grind] at h
    have k := bet_core' hab h
    rw [if_pos q]
    simp only [Bool.and_eq_true, decide_eq_true_eq]
    omega
  · have e1 : partN a b n d = a * d + (b - a) * n := by unfold partN nrmN; rw [if_pos q]
    have e2 : nrmD d = d := by unfold nrmD; rw [if_pos q]
    rw [e1, e2] at h
    have k := bet_core' hab h
    rw [if_neg (by omega)]
    simp only [Bool.and_eq_true, decide_eq_true_eq]
    omega
/-- The place is between all ends just where it is on both segments. -/
theorem lines_btw {a b c d : Pt} (h0 : crs c d a - crs c d b ≠ 0) (X Y D : Int) (hX : X = partN a.x b.x (crs c d a) (crs c d a - crs c d b)) (hY : Y = partN a.y b.y (crs c d a) (crs c d a - crs c d b)) (hD : D = nrmD (crs c d a - crs c d b)) :
    (btwF X D a.x b.x && (btwF Y D a.y b.y && (btwF X D c.x d.x && btwF Y D c.y d.y))) = (within (crs c d a) (crs c d a - crs c d b) && within (-crs a b c) (crs c d a - crs c d b)) := by
  have hab : a ≠ b := fun e => h0 (by rw [e]; omega)
  have hcd : c ≠ d := fun e => h0 (by rw [e, crs_aab, crs_aab]; rfl)
  have e := crs_det a b c d
  have X2 : X = partN c.x d.x (crs a b c) (crs a b c - crs a b d) := by
    rw [hX]
    have := lines_x a b c d
    unfold partN
    rw [this]
    unfold nrmN
    split <;> split <;> omega
  have Y2 : Y = partN c.y d.y (crs a b c) (crs a b c - crs a b d) := by
    rw [hY]
    have := lines_y a b c d
    unfold partN
    rw [this]
    unfold nrmN
    split <;> split <;> omega
  have D2 : D = nrmD (crs a b c - crs a b d) := by
    rw [hD]
    unfold nrmD
    split <;> split <;> omega
  have hm : within (-crs a b c) (crs c d a - crs c d b) = within (crs a b c) (crs a b c - crs a b d) := by
    rw [← within_neg (crs a b c) _ (by omega), show -(crs a b c - crs a b d) = crs c d a - crs c d b by omega]
  rw [hm, Bool.eq_iff_iff]
  simp only [Bool.and_eq_true, btwF_iff]
  constructor
  · rintro ⟨h1, h2, h3, h4⟩
    constructor
    · rw [hX, hD] at h1
      rw [hY, hD] at h2
      by_cases q : a.x = b.x
      · exact bet_within h0 (fun r => hab ((Pt.eq_iff a b).2 ⟨q, r⟩)) h2
      · exact bet_within h0 q h1
    · rw [X2, D2] at h3
      rw [Y2, D2] at h4
      by_cases q : c.x = d.x
      · exact bet_within (by omega) (fun r => hcd ((Pt.eq_iff c d).2 ⟨q, r⟩)) h4
      · exact bet_within (by omega) q h3
  · rintro ⟨h1, h2⟩
    refine ⟨by rw [hX, hD]; exact within_bet h1 h0, by rw [hY, hD]; exact within_bet h1 h0, by rw [X2, D2]; exact within_bet h2 (by omega), by rw [Y2, D2]; exact within_bet h2 (by omega)⟩

/-! ### Parallel segments -/
/-- An end that is on both. -/
def both (a b c d e : Pt) : Bool := onF e a b && onF e c d
theorem end_on (a b : Pt) : onF a a b = true := (onF_iff a a b).2 ⟨crs_aba a b, by omega, by omega, by omega, by omega⟩
theorem end_on' (a b : Pt) : onF b a b = true := (onF_iff b a b).2 ⟨crs_abb a b, by omega, by omega, by omega, by omega⟩
theorem both_in {a b c d e : Pt} (ra : rt a = true) (rb : rt b = true) (rc : rt c = true) (rd : rt d = true) (he : e = a ∨ e = b ∨ e = c ∨ e = d) (h : both a b c d e = true) : InM e (meetF a b c d) := by
  unfold both at h
  rw [Bool.and_eq_true] at h
  rcases he with he | he | he | he <;> subst he
  · exact on_in ra rb rc rd h.2
  · rw [← meetF_ab a e c d]; exact on_in rb ra rc rd h.2
  · rw [← meetF_sw a b e d]; exact on_in rc rd ra rb h.1
  · rw [← meetF_sw a b c e, ← meetF_ab c e a b]; exact on_in rd rc ra rb h.1
theorem par_place {a b c d : Pt} {xn xd yn yd : Int} (e : parG a b c d = .place xn xd yn yd) : ∃ p : Pt, MT.place xn xd yn yd = atF p ∧ both a b c d p = true ∧ (p = a ∨ p = b ∨ p = c ∨ p = d) := by
  unfold parG at e
  split at e
  · rename_i h
    exact ⟨a, e.symm, by unfold both; rw [end_on, h.2]; rfl, .inl rfl⟩
  split at e
  · cases e
  split at e
  · rename_i h
    exact ⟨c, e.symm, by unfold both; rw [end_on, h.2]; rfl, .inr (.inr (.inl rfl))⟩
  split at e
  · cases e
  · rename_i h1 h2 h3 h4
    have hab : a ≠ b := fun q => h2 (Or.inl q)
    have hcd : c ≠ d := fun q => h4 (Or.inl q)
    obtain ⟨L, k1, k2⟩ := row_end hcd e
    obtain ⟨L', k3, k4⟩ := row_end hab ((rowF_sw a b c d).trans e)
    have hL : L = L' := by
      rw [k2] at k4
      unfold atF at k4
      injection k4 with q1 _ q2 _
      exact (Pt.eq_iff L L').2 ⟨q1, q2⟩
    refine ⟨L, k2, ?_, by rcases k1 with q | q <;> simp [q]⟩
    unfold both
    rw [Bool.and_eq_true]
    constructor
    · rcases k1 with q | q <;> rw [q]
      · exact end_on a b
      · exact end_on' a b
    · rw [hL]
      rcases k3 with q | q <;> rw [q]
      · exact end_on c d
      · exact end_on' c d
/-- What the document finds out of the ends that are on both. -/
theorem par_of {a b c d : Pt} (ra : rt a = true) (rb : rt b = true) (rc : rt c = true) (rd : rt d = true) (hp : (crs c d a != crs c d b) = false)
    {L : List Pt} (hL : ∀ e, e ∈ L ↔ (e = a ∨ e = b ∨ e = c ∨ e = d) ∧ both a b c d e = true) {u v : Pt} (hu : u ∈ L) (hv : v ∈ L) (hb : ∀ e ∈ L, Lx u e ∧ Lx e v) :
    (u = v → meetF a b c d = atF u) ∧ (u ≠ v → meetF a b c d = .along u v) := by
  have iu := both_in ra rb rc rd ((hL u).1 hu).1 ((hL u).1 hu).2
  have iv := both_in ra rb rc rd ((hL v).1 hv).1 ((hL v).1 hv).2
  have em := meetF_par ra rb rc rd hp
  cases hM : meetF a b c d with
  | no => rw [hM] at iu; exact iu.elim
  | place xn xd yn yd =>
    rw [hM] at em
    obtain ⟨p, k1, k2, k3⟩ := par_place em.symm
    have hpL := hb p ((hL p).2 ⟨k3, k2⟩)
    have all : ∀ e ∈ L, e = p := fun e he => by
      have ie := both_in ra rb rc rd ((hL e).1 he).1 ((hL e).1 he).2
      rw [hM, k1] at ie
      have i1 := eq_of_cmp3 ie.1
      have i2 := eq_of_cmp3 ie.2
      exact (Pt.eq_iff e p).2 ⟨by omega, by omega⟩
    have e1 := all u hu
    have e2 := all v hv
    refine ⟨fun _ => by rw [k1, e1], fun q => absurd (e1.trans e2.symm) q⟩
  | along x y =>
    have k := meet_along hM
    have hx : x ∈ L := (hL x).2 ⟨k.2.2.1, by unfold both; rw [k.1.1, k.1.2.1]; rfl⟩
    have hy : y ∈ L := (hL y).2 ⟨k.2.2.2, by unfold both; rw [k.1.2.2.1, k.1.2.2.2]; rfl⟩
    rw [hM] at iu iv
    have lu := lx_of_on' k.2.1.1 iu
    have lv := lx_of_on' k.2.1.1 iv
    have e1 : u = x := Lx.antisymm (hb x hx).1 lu.1
    have e2 : v = y := Lx.antisymm lv.2 (hb y hy).2
    subst e1; subst e2
    exact ⟨fun q => absurd q k.2.1.2, fun _ => rfl⟩
theorem par_none {a b c d : Pt} (ra : rt a = true) (rb : rt b = true) (rc : rt c = true) (rd : rt d = true) (hp : (crs c d a != crs c d b) = false)
    (hL : ∀ e, (e = a ∨ e = b ∨ e = c ∨ e = d) → both a b c d e = false) : meetF a b c d = .no := by
  have em := meetF_par ra rb rc rd hp
  cases hM : meetF a b c d with
  | no => rfl
  | place xn xd yn yd =>
    rw [hM] at em
    obtain ⟨p, k1, k2, k3⟩ := par_place em.symm
    rw [hL p k3] at k2; cases k2
  | along x y =>
    have k := meet_along hM
    have := hL x k.2.2.1
    unfold both at this
    rw [k.1.1, k.1.2.1] at this; cases this

end Go.Proofs.Ytllaijapijinoaa

namespace Go.Proofs.Ytllaijapijinoaa
open Go.Cw
set_option linter.unusedVariables false

abbrev rm0c : List AV := [i64 0, .bool false, .nilsl, .bool false, .nilsl, .bool false, .nilsl, .bool false, .nilsl, i64 0, i64 0, i64 0, i64 0]
abbrev rm1c (xn xd yn yd : Int) : List AV := [i64 1, .bool (decide (xn < 0)), dsl (dg xn.natAbs), .bool (decide (xd < 0)), dsl (dg xd.natAbs), .bool (decide (yn < 0)), dsl (dg yn.natAbs), .bool (decide (yd < 0)), dsl (dg yd.natAbs), i64 0, i64 0, i64 0, i64 0]
abbrev rm2c (u v : Pt) : List AV := [i64 2, .bool false, .nilsl, .bool false, .nilsl, .bool false, .nilsl, .bool false, .nilsl, i64 u.x, i64 u.y, i64 v.x, i64 v.y]
/-- A meeting, as the document has it. -/
def MT.rav : MT → AV
  | .no => .ag rm0c
  | .place xn xd yn yd => .ag (rm1c xn xd yn yd)
  | .along u v => .ag (rm2c u v)
abbrev nzc (n : Int) : List AV := [.bool (decide (n < 0)), dsl (dg n.natAbs)]
def rmS (a b c d : Pt) (p q s t r u w : Int) : St :=
  ⟨[(4, .ptr 0 0), (5, .ptr 1 0), (6, .ptr 2 0), (7, .ptr 3 0), (8, .ptr 4 0), (9, i64 p), (10, i64 q), (11, .ptr 5 0), (12, i64 s), (13, i64 t), (14, .ptr 6 0), (15, .ptr 7 0)],
   [(0, ptC a), (1, ptC b), (2, ptC c), (3, ptC d), (4, .cells 68 rm0c), (5, .cells 64 (nzc r)), (6, .cells 64 (nzc u)), (7, .cells 64 (nzc w))], 8⟩
theorem rt_int {a b : Pt} (ha : rt a = true) (hb : rt b = true) : InI (b.y - a.y) ∧ InI (a.x - b.x) ∧ InI a.x ∧ InI a.y := by
  have ka := (rt_iff a).1 ha
  have kb := (rt_iff b).1 hb
  exact ⟨⟨by omega, by omega⟩, ⟨by omega, by omega⟩, ⟨by omega, by omega⟩, ⟨by omega, by omega⟩⟩
theorem line_bg {a b : Pt} (ha : rt a = true) (hb : rt b = true) : Bg 11 ((b.y - a.y) * a.x + (a.x - b.x) * a.y) := by
  have h := rt_int ha hb
  exact ((bg_int h.1).mul (bg_int h.2.2.1)).add ((bg_int h.2.1).mul (bg_int h.2.2.2))

end Go.Proofs.Ytllaijapijinoaa

namespace Go.Proofs.Ytllaijapijinoaa
open Go.Cw
set_option linter.unusedVariables false

set_option maxRecDepth 100000 in
set_option maxHeartbeats 4000000 in
theorem rat_ret {p : Pt} (h : rt p = true) : Ret Try.prog 71 [] [pt p.x p.y] (.ag (rm1c p.x 1 p.y 1)) [] := by
  have k := rt_bd h
  refine ret_of Try.func71 rfl rfl rfl ?_
  refine RC.use (rnum_ret 1 ⟨by decide, by decide⟩) rfl ?_
  refine RC.use (rnum_ret p.x (k.1.i (by decide))) rfl ?_
  refine RC.use (rnum_ret p.y (k.2.i (by decide))) rfl ?_
  refine CL.yes (by kernel_rfl) ?_
  exact ⟨rfl, rfl, trivial⟩
abbrev pav (p : Pt) : AV := .ag [.int .i64 p.x, .int .i64 p.y]
abbrev rmB (a b c d : Pt) : List (Nat × ABlk) := [(0, ptC a), (1, ptC b), (2, ptC c), (3, ptC d), (4, .cells 68 rm0c)]
def parS (a b c d : Pt) (k : Nat) : List Pt → St
  | [] => ⟨[(4, .ptr 0 0), (5, .ptr 1 0), (6, .ptr 2 0), (7, .ptr 3 0), (8, .ptr 4 0), (18, .nilsl), (19, .osl 5), (20, dn k)], [(0, ptC a), (1, ptC b), (2, ptC c), (3, ptC d), (4, .cells 68 rm0c), (5, .row 27 (some 2) [pav a, pav b, pav c, pav d])], 6⟩
  | x :: r => ⟨[(4, .ptr 0 0), (5, .ptr 1 0), (6, .ptr 2 0), (7, .ptr 3 0), (8, .ptr 4 0), (18, .osl 6), (19, .osl 5), (20, dn k)], [(0, ptC a), (1, ptC b), (2, ptC c), (3, ptC d), (4, .cells 68 rm0c), (5, .row 27 (some 2) [pav a, pav b, pav c, pav d]), (6, .row 27 (some 2) ((x :: r).map pav))], 7⟩
def parS0 (a b c d : Pt) : St :=
  ⟨[(4, .ptr 0 0), (5, .ptr 1 0), (6, .ptr 2 0), (7, .ptr 3 0), (8, .ptr 4 0), (18, .nilsl), (19, .osl 5)], [(0, ptC a), (1, ptC b), (2, ptC c), (3, ptC d), (4, .cells 68 rm0c), (5, .row 27 (some 2) [pav a, pav b, pav c, pav d])], 6⟩
def parS1 (a b c d : Pt) (L : List Pt) : St :=
  ⟨[(4, .ptr 0 0), (5, .ptr 1 0), (6, .ptr 2 0), (7, .ptr 3 0), (8, .ptr 4 0), (18, .osl 5)], [(0, ptC a), (1, ptC b), (2, ptC c), (3, ptC d), (4, .cells 68 rm0c), (5, .row 27 (some 2) (L.map pav))], 6⟩
def parS2 (a b c d : Pt) (L : List Pt) (u v : Pt) : St :=
  ⟨[(4, .ptr 0 0), (5, .ptr 1 0), (6, .ptr 2 0), (7, .ptr 3 0), (8, .ptr 4 0), (18, .osl 5), (21, .ptr 6 0), (22, .ptr 7 0)], [(0, ptC a), (1, ptC b), (2, ptC c), (3, ptC d), (4, .cells 68 rm0c), (5, .row 27 (some 2) (L.map pav)), (6, ptC u), (7, ptC v)], 8⟩
def parS3 (a b c d : Pt) (L : List Pt) (j : Nat) (u v : Pt) : St :=
  ⟨[(4, .ptr 0 0), (5, .ptr 1 0), (6, .ptr 2 0), (7, .ptr 3 0), (8, .ptr 4 0), (18, .osl 5), (21, .ptr 6 0), (22, .ptr 7 0), (23, dn j)], [(0, ptC a), (1, ptC b), (2, ptC c), (3, ptC d), (4, .cells 68 rm0c), (5, .row 27 (some 2) (L.map pav)), (6, ptC u), (7, ptC v)], 8⟩
/-- The ends that are on both, out of the first ones. -/
def bothL (a b c d : Pt) (k : Nat) : List Pt := ([a, b, c, d].take k).filter (both a b c d)
theorem bothL_succ {a b c d : Pt} {k : Nat} {p : Pt} (h : [a, b, c, d][k]? = some p) : bothL a b c d (k + 1) = bothL a b c d k ++ (if both a b c d p then [p] else []) := by
  unfold bothL
  have e : [a, b, c, d].take (k + 1) = [a, b, c, d].take k ++ [p] := by
    obtain ⟨hk, rfl⟩ := List.getElem?_eq_some_iff.1 h
    exact (List.take_append_getElem hk).symm
  rw [e, List.filter_append]
  congr 1
  simp [List.filter]
  split <;> simp_all
theorem bothL_all (a b c d e : Pt) : e ∈ bothL a b c d 4 ↔ (e = a ∨ e = b ∨ e = c ∨ e = d) ∧ both a b c d e = true := by
  unfold bothL
  simp [List.mem_filter]
theorem bothL_len (a b c d : Pt) (k : Nat) : (bothL a b c d k).length ≤ 4 := by
  unfold bothL
  refine Nat.le_trans (List.length_filter_le _ _) ?_
  rw [List.length_take]
  show min k 4 ≤ 4
  omega
structure LowI (L : List Pt) (j : Nat) (u v : Pt) : Prop where
  le : j ≤ L.length
  mu : u ∈ L
  mv : v ∈ L
  bd : ∀ e ∈ L.take j, Lx u e ∧ Lx e v
theorem lo_mem {L : List Pt} {u e : Pt} (hu : u ∈ L) (he : e ∈ L) : lo u e ∈ L := by rcases lo_or u e with q | q <;> rw [q] <;> assumption
theorem low_go {L : List Pt} {j : Nat} {u v e : Pt} (h : LowI L j u v) (he : L[j]? = some e) : (lo v e = v → LowI L (j + 1) (lo u e) e) ∧ (lo v e ≠ v → LowI L (j + 1) (lo u e) v) := by
  obtain ⟨hj, heq⟩ := List.getElem?_eq_some_iff.1 he
  have hm : e ∈ L := List.mem_of_getElem? he
  have k := lo_lx u e
  have k2 := lo_lx v e
  have tk : L.take (j + 1) = L.take j ++ [e] := by rw [← heq]; exact (List.take_append_getElem hj).symm
  constructor
  · intro q
    rw [q] at k2
    refine ⟨hj, lo_mem h.mu hm, hm, fun x hx => ?_⟩
    rw [tk, List.mem_append] at hx
    rcases hx with hx | hx
    · have := h.bd x hx
      exact ⟨k.1.trans this.1, this.2.trans k2.2⟩
    · have : x = e := by simpa using hx
      subst this
      exact ⟨k.2, .refl _⟩
  · intro q
    have q2 : lo v e = e := by rcases lo_or v e with r | r; exact absurd r q; exact r
    rw [q2] at k2
    refine ⟨hj, lo_mem h.mu hm, h.mv, fun x hx => ?_⟩
    rw [tk, List.mem_append] at hx
    rcases hx with hx | hx
    · have := h.bd x hx
      exact ⟨k.1.trans this.1, this.2⟩
    · have : x = e := by simpa using hx
      subst this
      exact ⟨k.2, k2.1⟩
theorem pav_get {L : List Pt} {j : Nat} {e : Pt} (h : L[j]? = some e) : (L.map pav)[j]? = some (pav e) := by
  rw [List.getElem?_map, h]; rfl
set_option maxRecDepth 100000 in
set_option maxHeartbeats 32000000 in
theorem rmeet_par {a b c d : Pt} (ra : rt a = true) (rb : rt b = true) (rc : rt c = true) (rd : rt d = true) (h : (crs c d a != crs c d b) = false) :
    Ret Try.prog 28 [] [pt a.x a.y, pt b.x b.y, pt c.x c.y, pt d.x d.y] (meetF a b c d).rav [] := by
  have h0 : crs c d a - crs c d b = 0 := by
    have : crs c d a = crs c d b := by simpa using h
    omega
  have i1 := rt_int ra rb
  have i2 := rt_int rc rd
  have g1 := line_bg ra rb
  have g2 := line_bg rc rd
  have hw := rdet_ret (b.y - a.y) (a.x - b.x) (d.y - c.y) (c.x - d.x) ((bg_int i1.1).le (by decide)) ((bg_int i1.2.1).le (by decide)) ((bg_int i2.1).le (by decide)) ((bg_int i2.2.1).le (by decide))
  have gw : Bg 11 ((b.y - a.y) * (c.x - d.x) + -((a.x - b.x) * (d.y - c.y))) := ((bg_int i1.1).mul (bg_int i2.2.1)).add ((bg_int i1.2.1).mul (bg_int i2.1)).neg
  rw [w_eq] at hw gw
  refine ret_cut [5, 3, 1, 3, 1] Try.func28 rfl rfl rfl ?_
  refine RC.use (refRight_of ra) rfl ?_
  refine RC.use (refRight_of rb) rfl ?_
  refine RC.use (refRight_of rc) rfl ?_
  refine RC.use (refRight_of rd) rfl ?_
  refine RC.use (rline_ret ra rb) rfl ?_
  refine RC.use (rline_ret rc rd) rfl ?_
  refine RC.use (rnum_ret _ i1.1) rfl ?_
  refine RC.use (rnum_ret _ i1.2.1) rfl ?_
  refine RC.use (rnum_ret _ i2.1) rfl ?_
  refine RC.use (rnum_ret _ i2.2.1) rfl ?_
  refine RC.use hw rfl ?_
  refine ⟨rmS a b c d (b.y - a.y) (a.x - b.x) (d.y - c.y) (c.x - d.x) ((b.y - a.y) * a.x + (a.x - b.x) * a.y) ((d.y - c.y) * c.x + (c.x - d.x) * c.y) (crs c d a - crs c d b), [(0, 0), (1, 1), (2, 2), (3, 3), (4, 4), (5, 5), (6, 6), (7, 7)], ⟨rfl, rfl, rfl, ⟨rfl, rfl, rfl, rfl, rfl, rfl, rfl, rfl, rfl, rfl, rfl, rfl, rfl, rfl, rfl, rfl, rfl, rfl, rfl, rfl, rfl, rfl, rfl, rfl, trivial⟩, ⟨rfl, rfl, rfl, rfl, rfl, rfl, rfl, rfl, rfl, rfl, rfl, rfl, rfl, rfl, rfl, rfl, trivial⟩⟩, ?_⟩
  refine RC.use (rnum_ret 0 ⟨by decide, by decide⟩) rfl ?_
  refine RC.use (cmpN_ret _ 0 (gw.le (by decide)) (bg_zero.le (by decide))) rfl ?_
  refine CL.yes (by kernel_rfl) ?_
  refine BM.split (fun q => ?_) (fun _ => ?_)
  · have q : (cmp3 (crs c d a - crs c d b) 0 != 0) = true := q
    rw [h0] at q
    exact absurd q (by decide)
  refine ⟨parS0 a b c d, [(0, 0), (1, 1), (2, 2), (3, 3), (4, 4), (5, 8)], ⟨rfl, rfl, rfl, ⟨rfl, rfl, rfl, rfl, rfl, rfl, rfl, rfl, rfl, rfl, rfl, rfl, rfl, rfl, trivial⟩, ⟨rfl, rfl, rfl, rfl, rfl, rfl, rfl, rfl, rfl, rfl, rfl, rfl, trivial⟩⟩, ?_⟩
  refine ⟨Nat × List Pt, fun x => parS a b c d x.1 x.2, fun x => x.1 ≤ 4 ∧ x.2 = bothL a b c d x.1, fun x => 4 - x.1, (0, []), [(0, 0), (1, 1), (2, 2), (3, 3), (4, 4), (5, 5)], ⟨Nat.zero_le _, rfl⟩, ⟨rfl, rfl, rfl, ⟨rfl, rfl, rfl, rfl, rfl, rfl, rfl, rfl, rfl, rfl, rfl, rfl, rfl, rfl, rfl, rfl, trivial⟩, ⟨rfl, rfl, rfl, rfl, rfl, rfl, rfl, rfl, rfl, rfl, rfl, rfl, trivial⟩⟩, ?_⟩
  intro x hI
  obtain ⟨k, L⟩ := x
  have hk : k ≤ 4 := hI.1
  have hL : L = bothL a b c d k := hI.2
  have hlen : L.length ≤ 4 := by rw [hL]; exact bothL_len a b c d k
  have hend : k < 4 → ∃ p, [a, b, c, d][k]? = some p ∧ rt p = true := fun q => by
    have : k = 0 ∨ k = 1 ∨ k = 2 ∨ k = 3 := by omega
    rcases this with rfl | rfl | rfl | rfl
    · exact ⟨a, rfl, ra⟩
    · exact ⟨b, rfl, rb⟩
    · exact ⟨c, rfl, rc⟩
    · exact ⟨d, rfl, rd⟩
  cases L with
  | nil =>
    refine BM.split (fun h1 => ?_) (fun h1 => ?_)
    · have h1 : decide ((k : Int) < 4) = true := h1
      rw [decide_eq_true_eq] at h1
      obtain ⟨p, hp, rp⟩ := hend (by omega)
      have hE : [pav a, pav b, pav c, pav d][((k : Int)).toNat]? = some (pav p) := pav_get (L := [a, b, c, d]) hp
      refine BM.split (fun _ => ?_) (fun h2 => ?_)
      rotate_left
      · have h2 : (true && decide (0 ≤ (k : Int)) && decide ((k : Int) < ((4 : Nat) : Int))) = false := h2
        rw [Bool.true_and, Bool.and_eq_false_iff, decide_eq_false_iff_not, decide_eq_false_iff_not] at h2
        omega
      refine WE.intro hE ?_
      refine RC.use (ref4On_ret rp ra rb) rfl ?_
      refine BM.split (fun k1 => ?_) (fun k1 => ?_)
      · have k1 : onF p a b = true := k1
        refine BM.split (fun _ => ?_) (fun h2 => ?_)
        rotate_left
        · have h2 : (true && decide (0 ≤ (k : Int)) && decide ((k : Int) < ((4 : Nat) : Int))) = false := h2
          rw [Bool.true_and, Bool.and_eq_false_iff, decide_eq_false_iff_not, decide_eq_false_iff_not] at h2
          omega
        refine WE.intro hE ?_
        refine RC.use (ref4On_ret rp rc rd) rfl ?_
        refine CL.yes (by kernel_rfl) ?_
        refine BM.split (fun k2 => ?_) (fun k2 => ?_)
        · have k2 : onF p c d = true := k2
          have hb : both a b c d p = true := by unfold both; rw [k1, k2]; rfl
          refine BM.split (fun _ => ?_) (fun h2 => ?_)
          rotate_left
          · have h2 : (true && decide (0 ≤ (k : Int)) && decide ((k : Int) < ((4 : Nat) : Int))) = false := h2
            rw [Bool.true_and, Bool.and_eq_false_iff, decide_eq_false_iff_not, decide_eq_false_iff_not] at h2
            omega
          refine WE.intro hE ?_
          refine ⟨(show (1 : Nat) * 16 ≤ 140737488355328 by decide), (show (1 : Nat) ≤ 140737488355328 by decide), .inr rfl, ?_⟩
          exact ⟨(k + 1, [] ++ [p]), [(0, 0), (1, 1), (2, 2), (3, 3), (4, 4), (5, 5), (6, 7)], ⟨(show k + 1 ≤ 4 by omega), (show [] ++ [p] = bothL a b c d (k + 1) by rw [bothL_succ hp, ← hL, if_pos hb])⟩, (show 4 - (k + 1) < 4 - k by omega), ⟨rfl, rfl, rfl, ⟨rfl, rfl, rfl, rfl, rfl, rfl, rfl, rfl, rfl, rfl, rfl, rfl, rfl, rfl, congrArg (AV.int .i64) (wrap_succ k (by omega)), rfl, trivial⟩, ⟨rfl, rfl, rfl, rfl, rfl, rfl, rfl, rfl, rfl, rfl, rfl, rfl, rfl, rfl, trivial⟩⟩⟩
        · have k2 : onF p c d = false := k2
          have hb : both a b c d p = false := by unfold both; rw [k1, k2]; rfl
          exact ⟨(k + 1, []), [(0, 0), (1, 1), (2, 2), (3, 3), (4, 4), (5, 5)], ⟨(show k + 1 ≤ 4 by omega), (show [] = bothL a b c d (k + 1) by rw [bothL_succ hp, ← hL, if_neg (by rw [hb]; decide), List.append_nil])⟩, (show 4 - (k + 1) < 4 - k by omega), ⟨rfl, rfl, rfl, ⟨rfl, rfl, rfl, rfl, rfl, rfl, rfl, rfl, rfl, rfl, rfl, rfl, rfl, rfl, congrArg (AV.int .i64) (wrap_succ k (by omega)), rfl, trivial⟩, ⟨rfl, rfl, rfl, rfl, rfl, rfl, rfl, rfl, rfl, rfl, rfl, rfl, trivial⟩⟩⟩
      · have k1 : onF p a b = false := k1
        have hb : both a b c d p = false := by unfold both; rw [k1]; rfl
        refine CL.yes (by kernel_rfl) ?_
        exact ⟨(k + 1, []), [(0, 0), (1, 1), (2, 2), (3, 3), (4, 4), (5, 5)], ⟨(show k + 1 ≤ 4 by omega), (show [] = bothL a b c d (k + 1) by rw [bothL_succ hp, ← hL, if_neg (by rw [hb]; decide), List.append_nil])⟩, (show 4 - (k + 1) < 4 - k by omega), ⟨rfl, rfl, rfl, ⟨rfl, rfl, rfl, rfl, rfl, rfl, rfl, rfl, rfl, rfl, rfl, rfl, rfl, rfl, congrArg (AV.int .i64) (wrap_succ k (by omega)), rfl, trivial⟩, ⟨rfl, rfl, rfl, rfl, rfl, rfl, rfl, rfl, rfl, rfl, rfl, rfl, trivial⟩⟩⟩
    · have h1 : decide ((k : Int) < 4) = false := h1
      rw [decide_eq_false_iff_not] at h1
      have hk4 : k = 4 := by omega
      subst hk4
      refine ⟨parS0 a b c d, [(0, 0), (1, 1), (2, 2), (3, 3), (4, 4), (5, 5)], ⟨rfl, rfl, rfl, ⟨rfl, rfl, rfl, rfl, rfl, rfl, rfl, rfl, rfl, rfl, rfl, rfl, rfl, rfl, trivial⟩, ⟨rfl, rfl, rfl, rfl, rfl, rfl, rfl, rfl, rfl, rfl, rfl, rfl, trivial⟩⟩, ?_⟩
      exact ⟨eq2 (.ag rm0c) (by
        rw [par_none ra rb rc rd h fun e he => by
          cases hq : both a b c d e with
          | false => rfl
          | true => have := (bothL_all a b c d e).2 ⟨he, hq⟩; rw [← hL] at this; cases this]; rfl) rfl, rfl, trivial⟩
  | cons y L =>
    refine BM.split (fun h1 => ?_) (fun h1 => ?_)
    · have h1 : decide ((k : Int) < 4) = true := h1
      rw [decide_eq_true_eq] at h1
      obtain ⟨p, hp, rp⟩ := hend (by omega)
      have hE : [pav a, pav b, pav c, pav d][((k : Int)).toNat]? = some (pav p) := pav_get (L := [a, b, c, d]) hp
      refine BM.split (fun _ => ?_) (fun h2 => ?_)
      rotate_left
      · have h2 : (true && decide (0 ≤ (k : Int)) && decide ((k : Int) < ((4 : Nat) : Int))) = false := h2
        rw [Bool.true_and, Bool.and_eq_false_iff, decide_eq_false_iff_not, decide_eq_false_iff_not] at h2
        omega
      refine WE.intro hE ?_
      refine RC.use (ref4On_ret rp ra rb) rfl ?_
      refine BM.split (fun k1 => ?_) (fun k1 => ?_)
      · have k1 : onF p a b = true := k1
        refine BM.split (fun _ => ?_) (fun h2 => ?_)
        rotate_left
        · have h2 : (true && decide (0 ≤ (k : Int)) && decide ((k : Int) < ((4 : Nat) : Int))) = false := h2
          rw [Bool.true_and, Bool.and_eq_false_iff, decide_eq_false_iff_not, decide_eq_false_iff_not] at h2
          omega
        refine WE.intro hE ?_
        refine RC.use (ref4On_ret rp rc rd) rfl ?_
        refine CL.yes (by kernel_rfl) ?_
        refine BM.split (fun k2 => ?_) (fun k2 => ?_)
        · have k2 : onF p c d = true := k2
          have hb : both a b c d p = true := by unfold both; rw [k1, k2]; rfl
          refine BM.split (fun _ => ?_) (fun h2 => ?_)
          rotate_left
          · have h2 : (true && decide (0 ≤ (k : Int)) && decide ((k : Int) < ((4 : Nat) : Int))) = false := h2
            rw [Bool.true_and, Bool.and_eq_false_iff, decide_eq_false_iff_not, decide_eq_false_iff_not] at h2
            omega
          refine WE.intro hE ?_
          refine ⟨(show (((y :: L).map pav).length + 1) * 16 ≤ 140737488355328 by rw [List.length_map]; omega), (show ((y :: L).map pav).length + 1 ≤ 140737488355328 by rw [List.length_map]; omega), .inr rfl, ?_⟩
          exact ⟨(k + 1, (y :: L) ++ [p]), [(0, 0), (1, 1), (2, 2), (3, 3), (4, 4), (5, 5), (6, 8)], ⟨(show k + 1 ≤ 4 by omega), (show (y :: L) ++ [p] = bothL a b c d (k + 1) by rw [bothL_succ hp, ← hL, if_pos hb])⟩, (show 4 - (k + 1) < 4 - k by omega), ⟨rfl, rfl, rfl, ⟨rfl, rfl, rfl, rfl, rfl, rfl, rfl, rfl, rfl, rfl, rfl, rfl, rfl, rfl, congrArg (AV.int .i64) (wrap_succ k (by omega)), rfl, trivial⟩, ⟨rfl, rfl, rfl, rfl, rfl, rfl, rfl, rfl, rfl, rfl, rfl, rfl, (congrArg (ABlk.row 27 (some 2)) (show ((y :: L).map pav) ++ [pav p] = ((y :: L) ++ [p]).map pav by rw [List.map_append]; rfl)), rfl, trivial⟩⟩⟩
        · have k2 : onF p c d = false := k2
          have hb : both a b c d p = false := by unfold both; rw [k1, k2]; rfl
          exact ⟨(k + 1, (y :: L)), [(0, 0), (1, 1), (2, 2), (3, 3), (4, 4), (5, 5), (6, 6)], ⟨(show k + 1 ≤ 4 by omega), (show (y :: L) = bothL a b c d (k + 1) by rw [bothL_succ hp, ← hL, if_neg (by rw [hb]; decide), List.append_nil])⟩, (show 4 - (k + 1) < 4 - k by omega), ⟨rfl, rfl, rfl, ⟨rfl, rfl, rfl, rfl, rfl, rfl, rfl, rfl, rfl, rfl, rfl, rfl, rfl, rfl, congrArg (AV.int .i64) (wrap_succ k (by omega)), rfl, trivial⟩, ⟨rfl, rfl, rfl, rfl, rfl, rfl, rfl, rfl, rfl, rfl, rfl, rfl, rfl, rfl, trivial⟩⟩⟩
      · have k1 : onF p a b = false := k1
        have hb : both a b c d p = false := by unfold both; rw [k1]; rfl
        refine CL.yes (by kernel_rfl) ?_
        exact ⟨(k + 1, (y :: L)), [(0, 0), (1, 1), (2, 2), (3, 3), (4, 4), (5, 5), (6, 6)], ⟨(show k + 1 ≤ 4 by omega), (show (y :: L) = bothL a b c d (k + 1) by rw [bothL_succ hp, ← hL, if_neg (by rw [hb]; decide), List.append_nil])⟩, (show 4 - (k + 1) < 4 - k by omega), ⟨rfl, rfl, rfl, ⟨rfl, rfl, rfl, rfl, rfl, rfl, rfl, rfl, rfl, rfl, rfl, rfl, rfl, rfl, congrArg (AV.int .i64) (wrap_succ k (by omega)), rfl, trivial⟩, ⟨rfl, rfl, rfl, rfl, rfl, rfl, rfl, rfl, rfl, rfl, rfl, rfl, rfl, rfl, trivial⟩⟩⟩
    · have h1 : decide ((k : Int) < 4) = false := h1
      rw [decide_eq_false_iff_not] at h1
      have hk4 : k = 4 := by omega
      subst hk4
      have hall : ∀ e, e ∈ (y :: L) ↔ (e = a ∨ e = b ∨ e = c ∨ e = d) ∧ both a b c d e = true := fun e => by rw [hL]; exact bothL_all a b c d e
      refine ⟨parS1 a b c d (y :: L), [(0, 0), (1, 1), (2, 2), (3, 3), (4, 4), (5, 6)], ⟨rfl, rfl, rfl, ⟨rfl, rfl, rfl, rfl, rfl, rfl, rfl, rfl, rfl, rfl, rfl, rfl, trivial⟩, ⟨rfl, rfl, rfl, rfl, rfl, rfl, rfl, rfl, rfl, rfl, rfl, rfl, trivial⟩⟩, ?_⟩
      refine BM.split (fun _ => ?_) (fun h2 => ?_)
      rotate_left
      · have h2 : (true && decide (0 ≤ (0 : Int)) && decide ((0 : Int) < (((y :: L).map pav).length : Int))) = false := h2
        rw [List.length_map, List.length_cons, Bool.true_and, Bool.and_eq_false_iff, decide_eq_false_iff_not, decide_eq_false_iff_not] at h2
        omega
      refine BM.split (fun _ => ?_) (fun h2 => ?_)
      rotate_left
      · have h2 : (true && decide (0 ≤ (0 : Int)) && decide ((0 : Int) < (((y :: L).map pav).length : Int))) = false := h2
        rw [List.length_map, List.length_cons, Bool.true_and, Bool.and_eq_false_iff, decide_eq_false_iff_not, decide_eq_false_iff_not] at h2
        omega
      refine ⟨parS2 a b c d (y :: L) y y, [(0, 0), (1, 1), (2, 2), (3, 3), (4, 4), (5, 5), (6, 6), (7, 7)], ⟨rfl, rfl, rfl, ⟨rfl, rfl, rfl, rfl, rfl, rfl, rfl, rfl, rfl, rfl, rfl, rfl, rfl, rfl, rfl, rfl, trivial⟩, ⟨rfl, rfl, rfl, rfl, rfl, rfl, rfl, rfl, rfl, rfl, rfl, rfl, rfl, rfl, rfl, rfl, trivial⟩⟩, ?_⟩
      clear hL hI
      have hI0 : LowI (y :: L) 1 y y := ⟨by rw [List.length_cons]; omega, List.mem_cons_self .., List.mem_cons_self .., fun e he => by
        have : e = y := by simpa using he
        subst this; exact ⟨.refl _, .refl _⟩⟩
      generalize y :: L = M at *
      refine ⟨Nat × Pt × Pt, fun x => parS3 a b c d M x.1 x.2.1 x.2.2, fun x => LowI M x.1 x.2.1 x.2.2, fun x => M.length - x.1, (1, y, y), [(0, 0), (1, 1), (2, 2), (3, 3), (4, 4), (5, 5), (6, 6), (7, 7)], hI0, ⟨rfl, rfl, rfl, ⟨rfl, rfl, rfl, rfl, rfl, rfl, rfl, rfl, rfl, rfl, rfl, rfl, rfl, rfl, rfl, rfl, rfl, rfl, trivial⟩, ⟨rfl, rfl, rfl, rfl, rfl, rfl, rfl, rfl, rfl, rfl, rfl, rfl, rfl, rfl, rfl, rfl, trivial⟩⟩, ?_⟩
      intro x hI
      obtain ⟨j, u, v⟩ := x
      have hI : LowI M j u v := hI
      have hjl := hI.le
      refine BM.split (fun h1 => ?_) (fun h1 => ?_)
      · have h1 : decide ((j : Int) < ((M.map pav).length : Int)) = true := h1
        rw [List.length_map, decide_eq_true_eq] at h1
        have hj : j < M.length := by omega
        obtain ⟨e, he⟩ : ∃ e, M[j]? = some e := ⟨M[j], List.getElem?_eq_getElem hj⟩
        have hE : (M.map pav)[((j : Int)).toNat]? = some (pav e) := pav_get he
        have hg := low_go hI he
        refine BM.split (fun _ => ?_) (fun h2 => ?_)
        rotate_left
        · have h2 : (true && decide (0 ≤ (j : Int)) && decide ((j : Int) < ((M.map pav).length : Int))) = false := h2
          rw [List.length_map, Bool.true_and, Bool.and_eq_false_iff, decide_eq_false_iff_not, decide_eq_false_iff_not] at h2
          omega
        refine WE.intro hE ?_
        refine RC.use (rleast_ret u e) rfl ?_
        refine CL.yes (by kernel_rfl) ?_
        refine BM.split (fun _ => ?_) (fun h2 => ?_)
        rotate_left
        · have h2 : (true && decide (0 ≤ (j : Int)) && decide ((j : Int) < ((M.map pav).length : Int))) = false := h2
          rw [List.length_map, Bool.true_and, Bool.and_eq_false_iff, decide_eq_false_iff_not, decide_eq_false_iff_not] at h2
          omega
        refine WE.intro hE ?_
        refine RC.use (rleast_ret v e) rfl ?_
        refine CL.yes (by kernel_rfl) ?_
        refine BM.split (fun k1 => ?_) (fun k1 => ?_)
        · have k1 : ((lo v e).x == v.x && ((lo v e).y == v.y && true)) = true := k1
          rw [ptB, decide_eq_true_eq] at k1
          refine BM.split (fun _ => ?_) (fun h2 => ?_)
          rotate_left
          · have h2 : (true && decide (0 ≤ (j : Int)) && decide ((j : Int) < ((M.map pav).length : Int))) = false := h2
            rw [List.length_map, Bool.true_and, Bool.and_eq_false_iff, decide_eq_false_iff_not, decide_eq_false_iff_not] at h2
            omega
          refine WE.intro hE ?_
          exact ⟨(j + 1, lo u e, e), [(0, 0), (1, 1), (2, 2), (3, 3), (4, 4), (5, 5), (6, 6), (7, 7)], (hg.1 k1), (show M.length - (j + 1) < M.length - j by omega), ⟨rfl, rfl, rfl, ⟨rfl, rfl, rfl, rfl, rfl, rfl, rfl, rfl, rfl, rfl, rfl, rfl, rfl, rfl, rfl, rfl, congrArg (AV.int .i64) (wrap_succ j (by omega)), rfl, trivial⟩, ⟨rfl, rfl, rfl, rfl, rfl, rfl, rfl, rfl, rfl, rfl, rfl, rfl, rfl, rfl, rfl, rfl, trivial⟩⟩⟩
        · have k1 : ((lo v e).x == v.x && ((lo v e).y == v.y && true)) = false := k1
          rw [ptB, decide_eq_false_iff_not] at k1
          exact ⟨(j + 1, lo u e, v), [(0, 0), (1, 1), (2, 2), (3, 3), (4, 4), (5, 5), (6, 6), (7, 7)], (hg.2 k1), (show M.length - (j + 1) < M.length - j by omega), ⟨rfl, rfl, rfl, ⟨rfl, rfl, rfl, rfl, rfl, rfl, rfl, rfl, rfl, rfl, rfl, rfl, rfl, rfl, rfl, rfl, congrArg (AV.int .i64) (wrap_succ j (by omega)), rfl, trivial⟩, ⟨rfl, rfl, rfl, rfl, rfl, rfl, rfl, rfl, rfl, rfl, rfl, rfl, rfl, rfl, rfl, rfl, trivial⟩⟩⟩
      · have h1 : decide ((j : Int) < ((M.map pav).length : Int)) = false := h1
        rw [List.length_map, decide_eq_false_iff_not] at h1
        have hb : ∀ e ∈ M, Lx u e ∧ Lx e v := fun e he => hI.bd e (by rw [List.take_of_length_le (by omega)]; exact he)
        have hf := par_of ra rb rc rd h hall hI.mu hI.mv hb
        have ru : rt u = true := by rcases ((hall u).1 hI.mu).1 with q | q | q | q <;> rw [q] <;> assumption
        refine ⟨parS2 a b c d M u v, [(0, 0), (1, 1), (2, 2), (3, 3), (4, 4), (5, 5), (6, 6), (7, 7)], ⟨rfl, rfl, rfl, ⟨rfl, rfl, rfl, rfl, rfl, rfl, rfl, rfl, rfl, rfl, rfl, rfl, rfl, rfl, rfl, rfl, trivial⟩, ⟨rfl, rfl, rfl, rfl, rfl, rfl, rfl, rfl, rfl, rfl, rfl, rfl, rfl, rfl, rfl, rfl, trivial⟩⟩, ?_⟩
        refine BM.split (fun k1 => ?_) (fun k1 => ?_)
        · have k1 : (u.x == v.x && (u.y == v.y && true)) = true := k1
          rw [ptB, decide_eq_true_eq] at k1
          refine RC.use (rat_ret ru) rfl ?_
          exact ⟨eq2 (.ag (rm1c u.x 1 u.y 1)) (by rw [hf.1 k1]; rfl) rfl, rfl, trivial⟩
        · have k1 : (u.x == v.x && (u.y == v.y && true)) = false := k1
          rw [ptB, decide_eq_false_iff_not] at k1
          exact ⟨eq2 (.ag (rm2c u v)) (by rw [hf.2 k1]; rfl) rfl, rfl, trivial⟩

end Go.Proofs.Ytllaijapijinoaa

namespace Go.Proofs.Ytllaijapijinoaa
open Go.Cw
set_option linter.unusedVariables false

abbrev qzc (n d : Int) : List AV := [.bool (decide (n < 0)), dsl (dg n.natAbs), .bool (decide (d < 0)), dsl (dg d.natAbs)]
def rmS2 (a b c d : Pt) (p q s t r u w X D : Int) : St :=
  ⟨[(4, .ptr 0 0), (5, .ptr 1 0), (6, .ptr 2 0), (7, .ptr 3 0), (8, .ptr 4 0), (9, i64 p), (10, i64 q), (11, .ptr 5 0), (12, i64 s), (13, i64 t), (14, .ptr 6 0), (15, .ptr 7 0), (16, .ptr 8 0)],
   [(0, ptC a), (1, ptC b), (2, ptC c), (3, ptC d), (4, .cells 68 rm0c), (5, .cells 64 (nzc r)), (6, .cells 64 (nzc u)), (7, .cells 64 (nzc w)), (8, .cells 66 (qzc X D))], 9⟩
def rmS3 (a b c d : Pt) (X Y D : Int) : St :=
  ⟨[(4, .ptr 0 0), (5, .ptr 1 0), (6, .ptr 2 0), (7, .ptr 3 0), (8, .ptr 4 0), (16, .ptr 5 0), (17, .ptr 6 0)],
   [(0, ptC a), (1, ptC b), (2, ptC c), (3, ptC d), (4, .cells 68 rm0c), (5, .cells 66 (qzc X D)), (6, .cells 66 (qzc Y D))], 7⟩
set_option maxRecDepth 100000 in
set_option maxHeartbeats 16000000 in
theorem rmeet_lines {a b c d : Pt} (ra : rt a = true) (rb : rt b = true) (rc : rt c = true) (rd : rt d = true) (h : (crs c d a != crs c d b) = true) :
    Ret Try.prog 28 [] [pt a.x a.y, pt b.x b.y, pt c.x c.y, pt d.x d.y] (meetF a b c d).rav [] := by
  have h0 : crs c d a - crs c d b ≠ 0 := by
    have : crs c d a ≠ crs c d b := by simpa using h
    omega
  have i1 := rt_int ra rb
  have i2 := rt_int rc rd
  have g1 := line_bg ra rb
  have g2 := line_bg rc rd
  have hw := rdet_ret (b.y - a.y) (a.x - b.x) (d.y - c.y) (c.x - d.x) ((bg_int i1.1).le (by decide)) ((bg_int i1.2.1).le (by decide)) ((bg_int i2.1).le (by decide)) ((bg_int i2.2.1).le (by decide))
  have gw : Bg 11 ((b.y - a.y) * (c.x - d.x) + -((a.x - b.x) * (d.y - c.y))) := ((bg_int i1.1).mul (bg_int i2.2.1)).add ((bg_int i1.2.1).mul (bg_int i2.1)).neg
  rw [w_eq] at hw gw
  have hx := rdet_ret ((b.y - a.y) * a.x + (a.x - b.x) * a.y) (a.x - b.x) ((d.y - c.y) * c.x + (c.x - d.x) * c.y) (c.x - d.x) (g1.le (by decide)) ((bg_int i1.2.1).le (by decide)) (g2.le (by decide)) ((bg_int i2.2.1).le (by decide))
  have gx : Bg 17 (((b.y - a.y) * a.x + (a.x - b.x) * a.y) * (c.x - d.x) + -((a.x - b.x) * ((d.y - c.y) * c.x + (c.x - d.x) * c.y))) := (g1.mul (bg_int i2.2.1)).add (((bg_int i1.2.1).mul g2).neg)
  have hy := rdet_ret (b.y - a.y) ((b.y - a.y) * a.x + (a.x - b.x) * a.y) (d.y - c.y) ((d.y - c.y) * c.x + (c.x - d.x) * c.y) ((bg_int i1.1).le (by decide)) (g1.le (by decide)) ((bg_int i2.1).le (by decide)) (g2.le (by decide))
  have gy : Bg 17 ((b.y - a.y) * ((d.y - c.y) * c.x + (c.x - d.x) * c.y) + -(((b.y - a.y) * a.x + (a.x - b.x) * a.y) * (d.y - c.y))) := ((bg_int i1.1).mul g2).add ((g1.mul (bg_int i2.1)).neg)
  rw [x_eq] at hx gx
  rw [y_eq] at hy gy
  have ox := over_ret _ _ h0 (gx.le (by decide)) (gw.le (by decide))
  have oy := over_ret _ _ h0 (gy.le (by decide)) (gw.le (by decide))
  have gX : Bg 17 (partN a.x b.x (crs c d a) (crs c d a - crs c d b)) := by unfold partN nrmN; split; exact gx; exact gx.neg
  have gY : Bg 17 (partN a.y b.y (crs c d a) (crs c d a - crs c d b)) := by unfold partN nrmN; split; exact gy; exact gy.neg
  have gD : Bg 11 (nrmD (crs c d a - crs c d b)) := by unfold nrmD; split; exact gw; exact gw.neg
  have ox : Ret Try.prog 68 [] [nz (a.x * (crs c d a - crs c d b) + (b.x - a.x) * crs c d a), nz (crs c d a - crs c d b)] (qz (partN a.x b.x (crs c d a) (crs c d a - crs c d b)) (nrmD (crs c d a - crs c d b))) [] := ox
  have oy : Ret Try.prog 68 [] [nz (a.y * (crs c d a - crs c d b) + (b.y - a.y) * crs c d a), nz (crs c d a - crs c d b)] (qz (partN a.y b.y (crs c d a) (crs c d a - crs c d b)) (nrmD (crs c d a - crs c d b))) [] := oy
  have ka := rt_bd ra
  have kb := rt_bd rb
  have kc := rt_bd rc
  have kd := rt_bd rd
  have hL := lines_btw h0 _ _ _ rfl rfl rfl
  have hF := meetF_lines ra rb rc rd h
  have hNo : (within (crs c d a) (crs c d a - crs c d b) && within (-crs a b c) (crs c d a - crs c d b)) = false → (meetF a b c d).rav = .ag rm0c := fun q => by
    rw [hF]; unfold linesF; rw [q]; rfl
  have hYes : (within (crs c d a) (crs c d a - crs c d b) && within (-crs a b c) (crs c d a - crs c d b)) = true → (meetF a b c d).rav = .ag (rm1c (partN a.x b.x (crs c d a) (crs c d a - crs c d b)) (nrmD (crs c d a - crs c d b)) (partN a.y b.y (crs c d a) (crs c d a - crs c d b)) (nrmD (crs c d a - crs c d b))) := fun q => by
    rw [hF]; unfold linesF; rw [q]; rfl
  rw [← hL] at hNo hYes
  generalize partN a.x b.x (crs c d a) (crs c d a - crs c d b) = X at *
  generalize partN a.y b.y (crs c d a) (crs c d a - crs c d b) = Y at *
  generalize nrmD (crs c d a - crs c d b) = D at *
  have bx1 := rbetween_ret X D a.x b.x (gX.le (by decide)) (gD.le (by decide)) ka.1 kb.1
  have by1 := rbetween_ret Y D a.y b.y (gY.le (by decide)) (gD.le (by decide)) ka.2 kb.2
  have bx2 := rbetween_ret X D c.x d.x (gX.le (by decide)) (gD.le (by decide)) kc.1 kd.1
  have by2 := rbetween_ret Y D c.y d.y (gY.le (by decide)) (gD.le (by decide)) kc.2 kd.2
  refine ret_tree (.seq .fin (.seq .fin (.seq .fin (.seq .fin (.seq .fin (.here (.seq (.seq .fin (.cond (.seq .fin (.here (.seq .fin (.here .fin)))) .fin)) .fin))))))) Try.func28 rfl rfl rfl ?_
  refine RC.use (refRight_of ra) rfl ?_
  refine RC.use (refRight_of rb) rfl ?_
  refine RC.use (refRight_of rc) rfl ?_
  refine RC.use (refRight_of rd) rfl ?_
  refine RC.use (rline_ret ra rb) rfl ?_
  refine RC.use (rline_ret rc rd) rfl ?_
  refine RC.use (rnum_ret _ i1.1) rfl ?_
  refine RC.use (rnum_ret _ i1.2.1) rfl ?_
  refine RC.use (rnum_ret _ i2.1) rfl ?_
  refine RC.use (rnum_ret _ i2.2.1) rfl ?_
  refine RC.use hw rfl ?_
  refine ⟨rmS a b c d (b.y - a.y) (a.x - b.x) (d.y - c.y) (c.x - d.x) ((b.y - a.y) * a.x + (a.x - b.x) * a.y) ((d.y - c.y) * c.x + (c.x - d.x) * c.y) (crs c d a - crs c d b), [(0, 0), (1, 1), (2, 2), (3, 3), (4, 4), (5, 5), (6, 6), (7, 7)], ⟨rfl, rfl, rfl, ⟨rfl, rfl, rfl, rfl, rfl, rfl, rfl, rfl, rfl, rfl, rfl, rfl, rfl, rfl, rfl, rfl, rfl, rfl, rfl, rfl, rfl, rfl, rfl, rfl, trivial⟩, ⟨rfl, rfl, rfl, rfl, rfl, rfl, rfl, rfl, rfl, rfl, rfl, rfl, rfl, rfl, rfl, rfl, trivial⟩⟩, ?_⟩
  refine RC.use (rnum_ret 0 ⟨by decide, by decide⟩) rfl ?_
  refine RC.use (cmpN_ret _ 0 (gw.le (by decide)) (bg_zero.le (by decide))) rfl ?_
  refine CL.yes (by kernel_rfl) ?_
  refine BM.split (fun _ => ?_) (fun q => ?_)
  rotate_left
  · have q : (cmp3 (crs c d a - crs c d b) 0 != 0) = false := q
    exact absurd (eq_of_cmp3 (by simpa using q)) h0
  refine RC.use (rnum_ret _ i1.2.1) rfl ?_
  refine RC.use (rnum_ret _ i2.2.1) rfl ?_
  refine RC.use hx rfl ?_
  refine RC.use ox rfl ?_
  refine CL.yes (by kernel_rfl) ?_
  refine ⟨rmS2 a b c d (b.y - a.y) (a.x - b.x) (d.y - c.y) (c.x - d.x) ((b.y - a.y) * a.x + (a.x - b.x) * a.y) ((d.y - c.y) * c.x + (c.x - d.x) * c.y) (crs c d a - crs c d b) X D, [(0, 0), (1, 1), (2, 2), (3, 3), (4, 4), (5, 5), (6, 6), (7, 7), (8, 8)], ⟨rfl, rfl, rfl, ⟨rfl, rfl, rfl, rfl, rfl, rfl, rfl, rfl, rfl, rfl, rfl, rfl, rfl, rfl, rfl, rfl, rfl, rfl, rfl, rfl, rfl, rfl, rfl, rfl, rfl, rfl, trivial⟩, ⟨rfl, rfl, rfl, rfl, rfl, rfl, rfl, rfl, rfl, rfl, rfl, rfl, rfl, rfl, rfl, rfl, rfl, rfl, trivial⟩⟩, ?_⟩
  refine RC.use (rnum_ret _ i1.1) rfl ?_
  refine RC.use (rnum_ret _ i2.1) rfl ?_
  refine RC.use hy rfl ?_
  refine RC.use oy rfl ?_
  refine CL.yes (by kernel_rfl) ?_
  refine ⟨rmS3 a b c d X Y D, [(0, 0), (1, 1), (2, 2), (3, 3), (4, 4), (5, 8), (6, 9)], ⟨rfl, rfl, rfl, ⟨rfl, rfl, rfl, rfl, rfl, rfl, rfl, rfl, rfl, rfl, rfl, rfl, rfl, rfl, trivial⟩, ⟨rfl, rfl, rfl, rfl, rfl, rfl, rfl, rfl, rfl, rfl, rfl, rfl, rfl, rfl, trivial⟩⟩, ?_⟩
  refine RC.use bx1 rfl ?_
  refine BM.split (fun k1 => ?_) (fun k1 => ?_)
  rotate_left
  · have k1 : btwF X D a.x b.x = false := k1
    exact ⟨eq2 (.ag rm0c) (hNo (by rw [k1]; rfl)) rfl, rfl, trivial⟩
  have k1 : btwF X D a.x b.x = true := k1
  refine RC.use by1 rfl ?_
  refine BM.split (fun k2 => ?_) (fun k2 => ?_)
  rotate_left
  · have k2 : btwF Y D a.y b.y = false := k2
    exact ⟨eq2 (.ag rm0c) (hNo (by rw [k1, k2]; rfl)) rfl, rfl, trivial⟩
  have k2 : btwF Y D a.y b.y = true := k2
  refine RC.use bx2 rfl ?_
  refine BM.split (fun k3 => ?_) (fun k3 => ?_)
  rotate_left
  · have k3 : btwF X D c.x d.x = false := k3
    exact ⟨eq2 (.ag rm0c) (hNo (by rw [k1, k2, k3]; rfl)) rfl, rfl, trivial⟩
  have k3 : btwF X D c.x d.x = true := k3
  refine RC.use by2 rfl ?_
  refine BM.split (fun k4 => ?_) (fun k4 => ?_)
  · have k4 : btwF Y D c.y d.y = true := k4
    exact ⟨eq2 (.ag (rm1c X D Y D)) (hYes (by rw [k1, k2, k3, k4]; rfl)) rfl, rfl, trivial⟩
  · have k4 : btwF Y D c.y d.y = false := k4
    exact ⟨eq2 (.ag rm0c) (hNo (by rw [k1, k2, k3, k4]; rfl)) rfl, rfl, trivial⟩

end Go.Proofs.Ytllaijapijinoaa

namespace Go.Proofs.Ytllaijapijinoaa
open Go.Cw
set_option linter.unusedVariables false
set_option linter.unusedSimpArgs false

theorem rmeet_in {a b c d : Pt} (ra : rt a = true) (rb : rt b = true) (rc : rt c = true) (rd : rt d = true) : Ret Try.prog 28 [] [pt a.x a.y, pt b.x b.y, pt c.x c.y, pt d.x d.y] (meetF a b c d).rav [] := by
  cases h : crs c d a != crs c d b
  · exact rmeet_par ra rb rc rd h
  · exact rmeet_lines ra rb rc rd h
theorem rmeet_ret (a b c d : Pt) : Ret Try.prog 28 [] [pt a.x a.y, pt b.x b.y, pt c.x c.y, pt d.x d.y] (meetF a b c d).rav [] := by
  cases ra : rt a
  · rw [meetF_out (by rw [ra]; rfl)]
    refine ret_of Try.func28 rfl rfl rfl ?_
    refine RC.use (refRight_of ra) rfl ?_
    exact ⟨rfl, rfl, trivial⟩
  cases rb : rt b
  · rw [meetF_out (by rw [ra, rb]; rfl)]
    refine ret_of Try.func28 rfl rfl rfl ?_
    refine RC.use (refRight_of ra) rfl ?_
    refine RC.use (refRight_of rb) rfl ?_
    exact ⟨rfl, rfl, trivial⟩
  cases rc : rt c
  · rw [meetF_out (by rw [ra, rb, rc]; rfl)]
    refine ret_of Try.func28 rfl rfl rfl ?_
    refine RC.use (refRight_of ra) rfl ?_
    refine RC.use (refRight_of rb) rfl ?_
    refine RC.use (refRight_of rc) rfl ?_
    exact ⟨rfl, rfl, trivial⟩
  cases rd : rt d
  · rw [meetF_out (by rw [ra, rb, rc, rd]; rfl)]
    refine ret_of Try.func28 rfl rfl rfl ?_
    refine RC.use (refRight_of ra) rfl ?_
    refine RC.use (refRight_of rb) rfl ?_
    refine RC.use (refRight_of rc) rfl ?_
    refine RC.use (refRight_of rd) rfl ?_
    exact ⟨rfl, rfl, trivial⟩
  exact rmeet_in ra rb rc rd
theorem good_bg {n d : Int} (h : GoodF n d) : Bg 7 n ∧ Bg 7 d := by
  obtain ⟨_, ⟨a, b⟩, ⟨c, e⟩⟩ := h
  exact ⟨bg_of (by show n.natAbs < 10000000000000000000000000000; omega), bg_of (by show d.natAbs < 10000000000000000000000000000; omega)⟩
set_option maxRecDepth 100000 in
set_option maxHeartbeats 4000000 in
theorem ris_ret {xn xd yn yd : Int} (g : GoodM (.place xn xd yn yd)) {p : Pt} (hp : rt p = true) : Ret Try.prog 73 [] [.ag (rm1c xn xd yn yd), pt p.x p.y] (.bool (isF xn xd yn yd p)) [] := by
  have k := rt_bd hp
  have g1 := good_bg g.1
  have g2 := good_bg g.2
  have b1 : Bg 5 p.x := bg_int (k.1.i (by decide))
  have b2 : Bg 5 p.y := bg_int (k.2.i (by decide))
  refine ret_of Try.func73 rfl rfl rfl ?_
  refine RC.use (rat_ret hp) rfl ?_
  refine RC.use (qcmp_ret xn xd p.x 1 (g1.1.le (by decide)) (g1.2.le (by decide)) (b1.le (by decide)) (bg_one.le (by decide))) rfl ?_
  refine BM.split (fun h => ?_) (fun h => ?_)
  · have h : (cmp3 (xn * 1) (p.x * xd) == 0) = true := h
    refine RC.use (qcmp_ret yn yd p.y 1 (g2.1.le (by decide)) (g2.2.le (by decide)) (b2.le (by decide)) (bg_one.le (by decide))) rfl ?_
    exact ⟨eq2 (.bool (cmp3 (yn * 1) (p.y * yd) == 0)) (by unfold isF; rw [h, Bool.true_and]) rfl, rfl, trivial⟩
  · have h : (cmp3 (xn * 1) (p.x * xd) == 0) = false := h
    exact ⟨eq2 (.bool false) (by unfold isF; rw [h, Bool.false_and]) rfl, rfl, trivial⟩

/-! ### alike -/
theorem qcmp_refl {n d : Int} (h : GoodF n d) : Ret Try.prog 49 [] [qz n d, qz n d] (i64 0) [] := by
  have g := good_bg h
  have := qcmp_ret n d n d (g.1.le (by decide)) (g.2.le (by decide)) (g.1.le (by decide)) (g.2.le (by decide))
  rw [cmp3_eq rfl] at this
  exact this
set_option maxRecDepth 100000 in
set_option maxHeartbeats 8000000 in
theorem alike_ret {M : MT} (g : GoodM M) : Ret Try.prog 27 [] [M.av, M.rav] (.bool true) [] := by
  cases M with
  | no =>
    refine ret_of Try.func27 rfl rfl rfl ?_
    exact ⟨rfl, rfl, trivial⟩
  | along u v =>
    refine ret_of Try.func27 rfl rfl rfl ?_
    refine BM.split (fun k => ?_) (fun _ => ?_)
    · exact absurd (k.symm.trans (ptSame' u)) (by decide)
    refine BM.split (fun k => ?_) (fun _ => ?_)
    · exact absurd (k.symm.trans (ptSame' v)) (by decide)
    exact ⟨rfl, rfl, trivial⟩
  | place xn xd yn yd =>
    refine ret_of Try.func27 rfl rfl rfl ?_
    refine RC.use (fracRight_pos xn xd g.1.1 (g.1.2.1.w (by decide))) rfl ?_
    refine RC.use (fracRight_pos yn yd g.2.1 (g.2.2.1.w (by decide))) rfl ?_
    refine RC.use (old_ret xn xd (g.1.2.2.w (by decide)) (g.1.2.1.w (by decide))) rfl ?_
    refine RC.use (qcmp_refl g.1) rfl ?_
    refine RC.use (old_ret yn yd (g.2.2.2.w (by decide)) (g.2.2.1.w (by decide))) rfl ?_
    refine RC.use (qcmp_refl g.2) rfl ?_
    refine CL.yes (by kernel_rfl) ?_
    exact ⟨rfl, rfl, trivial⟩

/-! ### Ends -/
theorem rends_plain {a b c d u v : Pt} (e : meetF a b c d = .along u v) :
    (decide (lo a b = lo c d) && (decide (u = lo a b) && ((decide (v = a) || decide (v = b)) && (decide (v = c) || decide (v = d))))) = ((decide (a = c) && decide (b = d)) || (decide (a = d) && decide (b = c))) := by
  have k := meet_along e
  obtain ⟨ra, rb, rc, rd⟩ := meetF_rt (by rw [e]; intro q; cases q)
  rw [Bool.eq_iff_iff]
  simp only [Bool.and_eq_true, Bool.or_eq_true, decide_eq_true_eq]
  have hv : ∀ x y : Pt, (v = x ∨ v = y) → u = lo x y → v = hi x y := fun x y h1 h2 => by
    have hne := k.2.1.2
    unfold lo at h2
    unfold hi
    split at h2
    · rename_i q; rw [if_pos q]
      rcases h1 with r | r
      · exact r
      · exact absurd (h2.trans r.symm) hne
    · rename_i q; rw [if_neg q]
      rcases h1 with r | r
      · exact absurd (h2.trans r.symm) hne
      · exact r
  have hab : a ≠ b := fun q => by
    subst q
    have hc := (onF_iff u a a).1 k.1.1
    have hc' := (onF_iff v a a).1 k.1.2.2.1
    exact k.2.1.2 ((Pt.eq_iff u v).2 ⟨by omega, by omega⟩)
  constructor
  · rintro ⟨h1, h2, h3, h4⟩
    have e1 := hv a b h3 h2
    have e2 := hv c d h4 (h2.trans h1)
    have e3 : hi a b = hi c d := e1.symm.trans e2
    have p1 := lo_or a b
    have p2 := lo_or c d
    unfold lo at h1
    unfold hi at e3
    split at h1 <;> split at h1
    · rename_i q1 q2
      rw [if_pos q1, if_pos q2] at e3
      exact .inl ⟨e3, h1⟩
    · rename_i q1 q2
      rw [if_pos q1, if_neg q2] at e3
      exact .inr ⟨e3, h1⟩
    · rename_i q1 q2
      rw [if_neg q1, if_pos q2] at e3
      exact .inr ⟨h1, e3⟩
    · rename_i q1 q2
      rw [if_neg q1, if_neg q2] at e3
      exact .inl ⟨h1, e3⟩
  · intro h
    have hs : meetF a b c d = .along (lo a b) (hi a b) := by
      rcases h with ⟨q1, q2⟩ | ⟨q1, q2⟩
      · subst q1; subst q2
        rw [← meetF_cd a b a b]
        exact self_meet ra rb hab
      · subst q1; subst q2
        exact self_meet ra rb hab
    rw [hs] at e
    injection e with q1 q2
    subst q1; subst q2
    have hh := hi_or a b
    rcases h with ⟨q1, q2⟩ | ⟨q1, q2⟩
    · subst q1; subst q2
      exact ⟨rfl, rfl, hh, hh⟩
    · subst q1; subst q2
      exact ⟨(lo_comm _ _).symm, rfl, hh, hh.symm⟩
def rendsV (a b c d u v : Pt) : Bool := decide (lo a b = lo c d) && (decide (u = lo a b) && ((decide (v = a) || decide (v = b)) && (decide (v = c) || decide (v = d))))
set_option maxRecDepth 100000 in
set_option maxHeartbeats 16000000 in
theorem rends_along {a b c d u v : Pt} (hm : Ret Try.prog 28 [] [pt a.x a.y, pt b.x b.y, pt c.x c.y, pt d.x d.y] (.ag (rm2c u v)) []) :
    Ret Try.prog 30 [] [pt a.x a.y, pt b.x b.y, pt c.x c.y, pt d.x d.y] (.bool (rendsV a b c d u v)) [] := by
  refine ret_of Try.func30 rfl rfl rfl ?_
  refine RC.use hm rfl ?_
  refine RC.use (rleast_ret a b) rfl ?_
  refine RC.use (rleast_ret c d) rfl ?_
  refine BM.split (fun hA => ?_) (fun hA => ?_)
  rotate_left
  · have hA : ((lo a b).x == (lo c d).x && ((lo a b).y == (lo c d).y && true)) = false := hA
    rw [ptB] at hA
    refine CL.yes (by kernel_rfl) ?_
    exact ⟨eq2 (.bool false) (by unfold rendsV; simp only [hA, Bool.true_and, Bool.false_and, Bool.and_true, Bool.and_false, Bool.true_or, Bool.false_or]) rfl, rfl, trivial⟩
  have hA : ((lo a b).x == (lo c d).x && ((lo a b).y == (lo c d).y && true)) = true := hA
  rw [ptB] at hA
  refine RC.use (rleast_ret a b) rfl ?_
  refine BM.split (fun hB => ?_) (fun hB => ?_)
  rotate_left
  · have hB : (u.x == (lo a b).x && (u.y == (lo a b).y && true)) = false := hB
    rw [ptB] at hB
    refine CL.yes (by kernel_rfl) ?_
    exact ⟨eq2 (.bool false) (by unfold rendsV; simp only [hA, hB, Bool.true_and, Bool.false_and, Bool.and_true, Bool.and_false, Bool.true_or, Bool.false_or]) rfl, rfl, trivial⟩
  have hB : (u.x == (lo a b).x && (u.y == (lo a b).y && true)) = true := hB
  rw [ptB] at hB
  refine BM.split (fun hC => ?_) (fun hC => ?_)
  · have hC : (v.x == a.x && (v.y == a.y && true)) = true := hC
    rw [ptB] at hC
    refine BM.split (fun hE => ?_) (fun hE => ?_)
    · have hE : (v.x == c.x && (v.y == c.y && true)) = true := hE
      rw [ptB] at hE
      refine CL.yes (by kernel_rfl) ?_
      exact ⟨eq2 (.bool true) (by unfold rendsV; simp only [hA, hB, hC, hE, Bool.true_and, Bool.false_and, Bool.and_true, Bool.and_false, Bool.true_or, Bool.false_or]) rfl, rfl, trivial⟩
    · have hE : (v.x == c.x && (v.y == c.y && true)) = false := hE
      rw [ptB] at hE
      refine CL.yes (by kernel_rfl) ?_
      exact ⟨eq2 (.bool (v.x == d.x && (v.y == d.y && true))) (by rw [ptB]; unfold rendsV; simp only [hA, hB, hC, hE, Bool.true_and, Bool.false_and, Bool.and_true, Bool.and_false, Bool.true_or, Bool.false_or]) rfl, rfl, trivial⟩
  · have hC : (v.x == a.x && (v.y == a.y && true)) = false := hC
    rw [ptB] at hC
    refine BM.split (fun hD => ?_) (fun hD => ?_)
    · have hD : (v.x == b.x && (v.y == b.y && true)) = true := hD
      rw [ptB] at hD
      refine BM.split (fun hE => ?_) (fun hE => ?_)
      · have hE : (v.x == c.x && (v.y == c.y && true)) = true := hE
        rw [ptB] at hE
        refine CL.yes (by kernel_rfl) ?_
        exact ⟨eq2 (.bool true) (by unfold rendsV; simp only [hA, hB, hC, hD, hE, Bool.true_and, Bool.false_and, Bool.and_true, Bool.and_false, Bool.true_or, Bool.false_or]) rfl, rfl, trivial⟩
      · have hE : (v.x == c.x && (v.y == c.y && true)) = false := hE
        rw [ptB] at hE
        refine CL.yes (by kernel_rfl) ?_
        exact ⟨eq2 (.bool (v.x == d.x && (v.y == d.y && true))) (by rw [ptB]; unfold rendsV; simp only [hA, hB, hC, hD, hE, Bool.true_and, Bool.false_and, Bool.and_true, Bool.and_false, Bool.true_or, Bool.false_or]) rfl, rfl, trivial⟩
    · have hD : (v.x == b.x && (v.y == b.y && true)) = false := hD
      rw [ptB] at hD
      refine CL.yes (by kernel_rfl) ?_
      exact ⟨eq2 (.bool false) (by unfold rendsV; simp only [hA, hB, hC, hD, Bool.true_and, Bool.false_and, Bool.and_true, Bool.and_false, Bool.true_or, Bool.false_or]) rfl, rfl, trivial⟩
set_option maxRecDepth 100000 in
set_option maxHeartbeats 16000000 in
theorem rends_ret (a b c d : Pt) : Ret Try.prog 30 [] [pt a.x a.y, pt b.x b.y, pt c.x c.y, pt d.x d.y] (.bool (endsF a b c d)) [] := by
  have hm := rmeet_ret a b c d
  have hg := meetF_good a b c d
  have hr := @meetF_rt a b c d
  have hp := @rends_plain a b c d
  unfold endsF
  generalize meetF a b c d = M at *
  cases M with
  | no =>
    refine ret_of Try.func30 rfl rfl rfl ?_
    refine RC.use hm rfl ?_
    exact ⟨rfl, rfl, trivial⟩
  | along p q =>
    have := rends_along hm
    rw [show rendsV a b c d p q = endsG (.along p q) a b c d from hp rfl] at this
    exact this
  | place xn xd yn yd =>
    have hR := hr (by intro e; cases e)
    refine ret_of Try.func30 rfl rfl rfl ?_
    refine RC.use hm rfl ?_
    refine RC.use (ris_ret hg hR.1) rfl ?_
    refine BM.split (fun h1 => ?_) (fun h1 => ?_)
    · have h1 : isF xn xd yn yd a = true := h1
      refine RC.use (ris_ret hg hR.2.2.1) rfl ?_
      refine BM.split (fun h2 => ?_) (fun h2 => ?_)
      · have h2 : isF xn xd yn yd c = true := h2
        exact ⟨eq2 (.bool true) (by unfold endsG; simp only [h1, h2, Bool.true_or, Bool.and_self]) rfl, rfl, trivial⟩
      · have h2 : isF xn xd yn yd c = false := h2
        refine RC.use (ris_ret hg hR.2.2.2) rfl ?_
        exact ⟨eq2 (.bool (isF xn xd yn yd d)) (by unfold endsG; simp only [h1, h2, Bool.true_or, Bool.false_or, Bool.true_and]) rfl, rfl, trivial⟩
    · have h1 : isF xn xd yn yd a = false := h1
      refine RC.use (ris_ret hg hR.2.1) rfl ?_
      refine BM.split (fun h3 => ?_) (fun h3 => ?_)
      · have h3 : isF xn xd yn yd b = true := h3
        refine RC.use (ris_ret hg hR.2.2.1) rfl ?_
        refine BM.split (fun h2 => ?_) (fun h2 => ?_)
        · have h2 : isF xn xd yn yd c = true := h2
          exact ⟨eq2 (.bool true) (by unfold endsG; simp only [h1, h3, h2, Bool.false_or, Bool.true_or, Bool.and_self]) rfl, rfl, trivial⟩
        · have h2 : isF xn xd yn yd c = false := h2
          refine RC.use (ris_ret hg hR.2.2.2) rfl ?_
          exact ⟨eq2 (.bool (isF xn xd yn yd d)) (by unfold endsG; simp only [h1, h3, h2, Bool.false_or, Bool.true_and]) rfl, rfl, trivial⟩
      · have h3 : isF xn xd yn yd b = false := h3
        exact ⟨eq2 (.bool false) (by unfold endsG; simp only [h1, h3, Bool.false_or, Bool.false_and]) rfl, rfl, trivial⟩

end Go.Proofs.Ytllaijapijinoaa

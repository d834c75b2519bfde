/-
  Parts of one proof, in their order: The equations of Meet. Conditions: those in each statement. · The contracts of Meet and Ends. Conditions: none. · The contract of Meet, one line. Conditions: those in each statement. · The contract of Meet, two lines. Conditions: those in each statement. · The contract of Meet. Conditions: those in each statement. · Bounds of what Meet makes, and what Ends tells, as plain functions. Conditions: none but those in each statement. · The contract of Ends. Conditions: none. · The contracts of the law's own functions one and alive. Conditions: none. · The contract of alive. Conditions: none. · Where a meeting lies: between the ends; a segment and itself, its double and its half. Conditions: those in each statement.
-/
import Derived.Test.YtllaijapijinoaaB3
set_option linter.all false
namespace Go.Proofs.Ytllaijapijinoaa
open Go.Cw
set_option linter.unusedVariables false

/-! ### Meet -/
theorem crossRight_of {p : Pt} {t : Bool} (h : rt p = t) : Ret Try.prog 26 [] [pt p.x p.y] (.bool t) [] := by
  subst h; exact crossRight_ret p.x p.y
theorem ptB (a b : Pt) : (a.x == b.x && (a.y == b.y && true)) = decide (a = b) := by
  rw [Bool.and_true, Bool.eq_iff_iff]
  simp only [Bool.and_eq_true, beq_iff_eq, decide_eq_true_eq]
  exact (Pt.eq_iff a b).symm
theorem lines_of {a b : Pt} (ha : rt a = true) (hb : rt b = true) (n m d : Int) (hn : Bd 288230376151711744 n) (hm : Bd 288230376151711744 m) (hd : Bd 576460752303423488 d) (h0 : d ≠ 0) {m' d' : Int} (em : m' = m) (ed : d' = d) :
    Ret Try.prog 58 [] [pt a.x a.y, pt b.x b.y, i64 n, i64 m', i64 d'] (linesF a b n m d).av [] := by
  subst em; subst ed; exact lines_ret ha hb n _ _ hn hm hd h0
theorem Bd.le {k l x : Int} (h : Bd k x) (hk : k ≤ l) : Bd l x := by
  obtain ⟨a, b⟩ := h; exact ⟨by omega, by omega⟩
theorem Bd.neg {k x : Int} (h : Bd k x) : Bd k (-x) := by
  obtain ⟨a, b⟩ := h; exact ⟨by omega, by omega⟩

theorem meetF_lines {a b c d : Pt} (ha : rt a = true) (hb : rt b = true) (hc : rt c = true) (hd : rt d = true) (h : (crs c d a != crs c d b) = true) :
    meetF a b c d = linesF a b (crs c d a) (-crs a b c) (crs c d a - crs c d b) := by
  unfold meetF meetG
  rw [ha, hb, hc, hd]
  simp only [Bool.and_self, if_true]
  rw [if_pos (by simpa using h)]
theorem meetF_par {a b c d : Pt} (ha : rt a = true) (hb : rt b = true) (hc : rt c = true) (hd : rt d = true) (h : (crs c d a != crs c d b) = false) :
    meetF a b c d = parG a b c d := by
  unfold meetF meetG
  rw [ha, hb, hc, hd]
  simp only [Bool.and_self, if_true]
  rw [if_neg (by simpa using h)]

theorem meetF_out {a b c d : Pt} (h : (rt a && (rt b && (rt c && rt d))) = false) : meetF a b c d = .no := by
  unfold meetF; rw [h]; rfl

end Go.Proofs.Ytllaijapijinoaa

namespace Go.Proofs.Ytllaijapijinoaa
open Go.Cw
set_option linter.unusedVariables false

theorem lo_rt {a b : Pt} (ha : rt a = true) (hb : rt b = true) : rt (lo a b) = true := by unfold lo; split <;> assumption
theorem hi_rt {a b : Pt} (ha : rt a = true) (hb : rt b = true) : rt (hi a b) = true := by unfold hi; split <;> assumption

theorem rowG_zero {l h : Pt} (e : (pcmp l h == 0) = true) : (rowG l h).av = mt1 l.x 1 l.y 1 := by
  unfold rowG
  rw [if_pos (by simpa using e)]
  rfl
theorem rowG_one {l h : Pt} (e : (pcmp l h == 0) = false) (e1 : (pcmp l h == 1) = true) : (rowG l h).av = mt0 := by
  unfold rowG
  rw [if_neg (by simpa using e), if_pos (by simpa using e1)]
  rfl
theorem rowG_two {l h : Pt} (e : (pcmp l h == 0) = false) (e1 : (pcmp l h == 1) = false) : (rowG l h).av = mt2 l.x l.y h.x h.y := by
  unfold rowG
  rw [if_neg (by simpa using e), if_neg (by simpa using e1)]
  rfl
theorem rowL_pos {a c : Pt} (h : decide (pcmp a c < 0) = true) : rowL a c = c := if_pos (by simpa using h)
theorem rowL_neg {a c : Pt} (h : decide (pcmp a c < 0) = false) : rowL a c = a := if_neg (by simpa using h)
theorem rowH_pos {b d : Pt} (h : decide (pcmp b d > 0) = true) : rowH b d = d := if_pos (by simpa using h)
theorem rowH_neg {b d : Pt} (h : decide (pcmp b d > 0) = false) : rowH b d = b := if_neg (by simpa using h)

set_option maxHeartbeats 2000000 in
theorem row_ret {a b c d : Pt} (ha : rt a = true) (hb : rt b = true) (hc : rt c = true) (hd : rt d = true) :
    Ret Try.prog 61 [] [pt a.x a.y, pt b.x b.y, pt c.x c.y, pt d.x d.y] (rowF a b c d).av [] := by
  have s1 := sorted_ret a b
  have s2 := sorted_ret c d
  have r1 := lo_rt ha hb
  have r2 := hi_rt ha hb
  have r3 := lo_rt hc hd
  have r4 := hi_rt hc hd
  unfold rowF
  generalize lo a b = A at *
  generalize hi a b = B at *
  generalize lo c d = C at *
  generalize hi c d = D at *
  refine ret_of Try.func61 rfl rfl rfl ?_
  refine RC.use s1 rfl ?_
  refine RC.use s2 rfl ?_
  refine RC.use (planeCmp_ret _ _ _ _) rfl ?_
  refine BM.split (fun h1 => ?_) (fun h1 => ?_)
  · have h1 : decide (pcmp A C < 0) = true := h1
    refine RC.use (planeCmp_ret B.x B.y D.x D.y) rfl ?_
    refine BM.split (fun h2 => ?_) (fun h2 => ?_)
    · have h2 : decide (pcmp B D > 0) = true := h2
      refine RC.use (planeCmp_ret C.x C.y D.x D.y) rfl ?_
      refine BM.split (fun k0 => ?_) (fun k0 => ?_)
      · have k0 : (pcmp C D == 0) = true := k0
        refine RC.use (at_ret (p := C) r3) rfl ?_
        exact ⟨eq2 (mt1 C.x 1 C.y 1) (by rw [rowL_pos h1, rowH_pos h2, rowG_zero k0]) rfl, rfl, trivial⟩
      · have k0 : (pcmp C D == 0) = false := k0
        refine BM.split (fun k1 => ?_) (fun k1 => ?_)
        · have k1 : (pcmp C D == 1) = true := k1
          exact ⟨eq2 mt0 (by rw [rowL_pos h1, rowH_pos h2, rowG_one k0 k1]) rfl, rfl, trivial⟩
        · have k1 : (pcmp C D == 1) = false := k1
          exact ⟨eq2 (mt2 C.x C.y D.x D.y) (by rw [rowL_pos h1, rowH_pos h2, rowG_two k0 k1]) rfl, rfl, trivial⟩
    · have h2 : decide (pcmp B D > 0) = false := h2
      refine RC.use (planeCmp_ret C.x C.y B.x B.y) rfl ?_
      refine BM.split (fun k0 => ?_) (fun k0 => ?_)
      · have k0 : (pcmp C B == 0) = true := k0
        refine RC.use (at_ret (p := C) r3) rfl ?_
        exact ⟨eq2 (mt1 C.x 1 C.y 1) (by rw [rowL_pos h1, rowH_neg h2, rowG_zero k0]) rfl, rfl, trivial⟩
      · have k0 : (pcmp C B == 0) = false := k0
        refine BM.split (fun k1 => ?_) (fun k1 => ?_)
        · have k1 : (pcmp C B == 1) = true := k1
          exact ⟨eq2 mt0 (by rw [rowL_pos h1, rowH_neg h2, rowG_one k0 k1]) rfl, rfl, trivial⟩
        · have k1 : (pcmp C B == 1) = false := k1
          exact ⟨eq2 (mt2 C.x C.y B.x B.y) (by rw [rowL_pos h1, rowH_neg h2, rowG_two k0 k1]) rfl, rfl, trivial⟩
  · have h1 : decide (pcmp A C < 0) = false := h1
    refine RC.use (planeCmp_ret B.x B.y D.x D.y) rfl ?_
    refine BM.split (fun h2 => ?_) (fun h2 => ?_)
    · have h2 : decide (pcmp B D > 0) = true := h2
      refine RC.use (planeCmp_ret A.x A.y D.x D.y) rfl ?_
      refine BM.split (fun k0 => ?_) (fun k0 => ?_)
      · have k0 : (pcmp A D == 0) = true := k0
        refine RC.use (at_ret (p := A) r1) rfl ?_
        exact ⟨eq2 (mt1 A.x 1 A.y 1) (by rw [rowL_neg h1, rowH_pos h2, rowG_zero k0]) rfl, rfl, trivial⟩
      · have k0 : (pcmp A D == 0) = false := k0
        refine BM.split (fun k1 => ?_) (fun k1 => ?_)
        · have k1 : (pcmp A D == 1) = true := k1
          exact ⟨eq2 mt0 (by rw [rowL_neg h1, rowH_pos h2, rowG_one k0 k1]) rfl, rfl, trivial⟩
        · have k1 : (pcmp A D == 1) = false := k1
          exact ⟨eq2 (mt2 A.x A.y D.x D.y) (by rw [rowL_neg h1, rowH_pos h2, rowG_two k0 k1]) rfl, rfl, trivial⟩
    · have h2 : decide (pcmp B D > 0) = false := h2
      refine RC.use (planeCmp_ret A.x A.y B.x B.y) rfl ?_
      refine BM.split (fun k0 => ?_) (fun k0 => ?_)
      · have k0 : (pcmp A B == 0) = true := k0
        refine RC.use (at_ret (p := A) r1) rfl ?_
        exact ⟨eq2 (mt1 A.x 1 A.y 1) (by rw [rowL_neg h1, rowH_neg h2, rowG_zero k0]) rfl, rfl, trivial⟩
      · have k0 : (pcmp A B == 0) = false := k0
        refine BM.split (fun k1 => ?_) (fun k1 => ?_)
        · have k1 : (pcmp A B == 1) = true := k1
          exact ⟨eq2 mt0 (by rw [rowL_neg h1, rowH_neg h2, rowG_one k0 k1]) rfl, rfl, trivial⟩
        · have k1 : (pcmp A B == 1) = false := k1
          exact ⟨eq2 (mt2 A.x A.y B.x B.y) (by rw [rowL_neg h1, rowH_neg h2, rowG_two k0 k1]) rfl, rfl, trivial⟩


end Go.Proofs.Ytllaijapijinoaa

namespace Go.Proofs.Ytllaijapijinoaa
open Go.Cw
set_option linter.unusedVariables false

def meetS (a b c d : Pt) (A B C : Int) : St :=
  ⟨[(4, .ptr 0 0), (5, .ptr 1 0), (6, .ptr 2 0), (7, .ptr 3 0), (8, .ptr 4 0), (9, i64 A), (10, i64 B), (11, i64 C)],
   [(0, .cells 27 [i64 a.x, i64 a.y]), (1, .cells 27 [i64 b.x, i64 b.y]), (2, .cells 27 [i64 c.x, i64 c.y]), (3, .cells 27 [i64 d.x, i64 d.y]),
    (4, .cells 60 [i64 0, i64 0, u64 0, i64 0, u64 0, i64 0, u64 0, i64 0, u64 0, i64 0, i64 0, i64 0, i64 0])], 5⟩
set_option maxHeartbeats 4000000 in
theorem meet_par {a b c d : Pt} (ha : rt a = true) (hb : rt b = true) (hc : rt c = true) (hd : rt d = true) (h : (crs c d a != crs c d b) = false) :
    Ret Try.prog 24 [] [pt a.x a.y, pt b.x b.y, pt c.x c.y, pt d.x d.y] (parG a b c d).av [] := by
  refine ret_cut [3] Try.func24 rfl rfl rfl ?_
  refine RC.use (crossRight_of ha) rfl ?_
  refine RC.use (crossRight_of hb) rfl ?_
  refine RC.use (crossRight_of hc) rfl ?_
  refine RC.use (crossRight_of hd) rfl ?_
  refine RC.use (planeCross_ret hc hd ha) rfl ?_
  refine RC.use (planeCross_ret hc hd hb) rfl ?_
  refine RC.use (planeCross_ret ha hb hc) rfl ?_
  refine CL.yes (by kernel_rfl) ?_
  refine ⟨meetS a b c d (crs c d a) (crs c d b) (crs a b c), [(0, 0), (1, 1), (2, 2), (3, 3), (4, 4)], ⟨rfl, rfl, rfl, ⟨rfl, rfl, rfl, rfl, rfl, rfl, rfl, rfl, rfl, rfl, rfl, rfl, rfl, rfl, rfl, rfl, trivial⟩, ⟨rfl, rfl, rfl, rfl, rfl, rfl, rfl, rfl, rfl, rfl, trivial⟩⟩, ?_⟩
  refine BM.split (fun h0 => ?_) (fun _ => ?_)
  · exact absurd (h0.symm.trans h) (by decide)
  refine BM.split (fun h1 => ?_) (fun h1 => ?_)
  · have h1 : (a.x == b.x && (a.y == b.y && true)) = true := h1
    have p1 : a = b := by rw [ptB] at h1; simpa using h1
    refine RC.use (planeOn_ret ha hc hd) rfl ?_
    refine BM.split (fun h2 => ?_) (fun h2 => ?_)
    · have h2 : onF a c d = true := h2
      refine RC.use (at_ret ha) rfl ?_
      exact ⟨eq2 (mt1 a.x 1 a.y 1) (by unfold parG; rw [if_pos ⟨p1, h2⟩]; rfl) rfl, rfl, trivial⟩
    · have h2 : onF a c d = false := h2
      refine BM.split (fun h3 => ?_) (fun h3 => ?_)
      · exact ⟨eq2 mt0 (by unfold parG; rw [if_neg (by simp [h2]), if_pos (Or.inl p1)]; rfl) rfl, rfl, trivial⟩
      · exact absurd (h1.symm.trans h3) (by decide)
  · have h1 : (a.x == b.x && (a.y == b.y && true)) = false := h1
    have p1 : ¬ a = b := by rw [ptB] at h1; simpa using h1
    refine BM.split (fun h3 => ?_) (fun _ => ?_)
    · exact absurd (h3.symm.trans h1) (by decide)
    refine BM.split (fun h3 => ?_) (fun h3 => ?_)
    · have h3 : (crs c d a != 0) = true := h3
      exact ⟨eq2 mt0 (by unfold parG; rw [if_neg (by simp [p1]), if_pos (Or.inr (by simpa using h3))]; rfl) rfl, rfl, trivial⟩
    · have h3 : (crs c d a != 0) = false := h3
      have p3 : crs c d a = 0 := by simpa using h3
      refine BM.split (fun h4 => ?_) (fun h4 => ?_)
      · have h4 : (c.x == d.x && (c.y == d.y && true)) = true := h4
        have p4 : c = d := by rw [ptB] at h4; simpa using h4
        refine RC.use (planeOn_ret hc ha hb) rfl ?_
        refine BM.split (fun h5 => ?_) (fun h5 => ?_)
        · have h5 : onF c a b = true := h5
          refine RC.use (at_ret hc) rfl ?_
          exact ⟨eq2 (mt1 c.x 1 c.y 1) (by unfold parG; rw [if_neg (by simp [p1]), if_neg (by simp [p1, p3]), if_pos ⟨p4, h5⟩]; rfl) rfl, rfl, trivial⟩
        · have h5 : onF c a b = false := h5
          refine BM.split (fun h6 => ?_) (fun h6 => ?_)
          · exact ⟨eq2 mt0 (by unfold parG; rw [if_neg (by simp [p1]), if_neg (by simp [p1, p3]), if_neg (by simp [h5]), if_pos (Or.inl p4)]; rfl) rfl, rfl, trivial⟩
          · exact absurd (h4.symm.trans h6) (by decide)
      · have h4 : (c.x == d.x && (c.y == d.y && true)) = false := h4
        have p4 : ¬ c = d := by rw [ptB] at h4; simpa using h4
        refine BM.split (fun h6 => ?_) (fun _ => ?_)
        · exact absurd (h6.symm.trans h4) (by decide)
        refine BM.split (fun h6 => ?_) (fun h6 => ?_)
        · have h6 : (crs a b c != 0) = true := h6
          exact ⟨eq2 mt0 (by unfold parG; rw [if_neg (by simp [p1]), if_neg (by simp [p1, p3]), if_neg (by simp [p4]), if_pos (Or.inr (by simpa using h6))]; rfl) rfl, rfl, trivial⟩
        · have h6 : (crs a b c != 0) = false := h6
          have e : parG a b c d = rowF a b c d := by
            unfold parG
            rw [if_neg (by simp [p1]), if_neg (by simp [p1, p3]), if_neg (by simp [p4]), if_neg (by simp [p4]; simpa using h6)]
          have hr := row_ret ha hb hc hd
          rw [← e] at hr
          generalize parG a b c d = M at hr
          cases M with
          | no => refine RC.use hr rfl ?_; exact ⟨rfl, rfl, trivial⟩
          | place xn xd yn yd => refine RC.use hr rfl ?_; exact ⟨rfl, rfl, trivial⟩
          | along p q => refine RC.use hr rfl ?_; exact ⟨rfl, rfl, trivial⟩


end Go.Proofs.Ytllaijapijinoaa

namespace Go.Proofs.Ytllaijapijinoaa
open Go.Cw
set_option linter.unusedVariables false

set_option maxHeartbeats 2000000 in
theorem meet_lines {a b c d : Pt} (ha : rt a = true) (hb : rt b = true) (hc : rt c = true) (hd : rt d = true) (h : (crs c d a != crs c d b) = true) :
    Ret Try.prog 24 [] [pt a.x a.y, pt b.x b.y, pt c.x c.y, pt d.x d.y] (linesF a b (crs c d a) (-crs a b c) (crs c d a - crs c d b)).av [] := by
  have b1 := crs_bd2 hc hd ha
  have b2 := crs_bd2 hc hd hb
  have b3 := crs_bd2 ha hb hc
  have hl := lines_of ha hb (crs c d a) (-crs a b c) (crs c d a - crs c d b) (b1.le (by decide)) (b3.neg.le (by decide)) ((b1.sub b2).le (by decide)) (by
      have : crs c d a ≠ crs c d b := by simpa using h
      omega)
    (m' := IntKind.wrap .i64 (0 - crs a b c)) (d' := IntKind.wrap .i64 (crs c d a - crs c d b)) (by
      obtain ⟨q1, q2⟩ := b3
      rw [IntKind.wrap_i64]; omega) (by
      obtain ⟨q1, q2⟩ := b1
      obtain ⟨q3, q4⟩ := b2
      rw [IntKind.wrap_i64]; omega)
  generalize linesF a b (crs c d a) (-crs a b c) (crs c d a - crs c d b) = M at hl
  cases M with
  | no =>
    refine ret_of Try.func24 rfl rfl rfl ?_
    refine RC.use (crossRight_of ha) rfl ?_
    refine RC.use (crossRight_of hb) rfl ?_
    refine RC.use (crossRight_of hc) rfl ?_
    refine RC.use (crossRight_of hd) rfl ?_
    refine RC.use (planeCross_ret hc hd ha) rfl ?_
    refine RC.use (planeCross_ret hc hd hb) rfl ?_
    refine RC.use (planeCross_ret ha hb hc) rfl ?_
    refine CL.yes (by kernel_rfl) ?_
    refine BM.split (fun _ => ?_) (fun h0 => ?_)
    · refine RC.use hl rfl ?_
      exact ⟨rfl, rfl, trivial⟩
    · exact absurd (h.symm.trans h0) (by decide)
  | place xn xd yn yd =>
    refine ret_of Try.func24 rfl rfl rfl ?_
    refine RC.use (crossRight_of ha) rfl ?_
    refine RC.use (crossRight_of hb) rfl ?_
    refine RC.use (crossRight_of hc) rfl ?_
    refine RC.use (crossRight_of hd) rfl ?_
    refine RC.use (planeCross_ret hc hd ha) rfl ?_
    refine RC.use (planeCross_ret hc hd hb) rfl ?_
    refine RC.use (planeCross_ret ha hb hc) rfl ?_
    refine CL.yes (by kernel_rfl) ?_
    refine BM.split (fun _ => ?_) (fun h0 => ?_)
    · refine RC.use hl rfl ?_
      exact ⟨rfl, rfl, trivial⟩
    · exact absurd (h.symm.trans h0) (by decide)
  | along p q =>
    refine ret_of Try.func24 rfl rfl rfl ?_
    refine RC.use (crossRight_of ha) rfl ?_
    refine RC.use (crossRight_of hb) rfl ?_
    refine RC.use (crossRight_of hc) rfl ?_
    refine RC.use (crossRight_of hd) rfl ?_
    refine RC.use (planeCross_ret hc hd ha) rfl ?_
    refine RC.use (planeCross_ret hc hd hb) rfl ?_
    refine RC.use (planeCross_ret ha hb hc) rfl ?_
    refine CL.yes (by kernel_rfl) ?_
    refine BM.split (fun _ => ?_) (fun h0 => ?_)
    · refine RC.use hl rfl ?_
      exact ⟨rfl, rfl, trivial⟩
    · exact absurd (h.symm.trans h0) (by decide)


end Go.Proofs.Ytllaijapijinoaa

namespace Go.Proofs.Ytllaijapijinoaa
open Go.Cw
set_option linter.unusedVariables false

theorem meet_ret (a b c d : Pt) : Ret Try.prog 24 [] [pt a.x a.y, pt b.x b.y, pt c.x c.y, pt d.x d.y] (meetF a b c d).av [] := by
  cases ha : rt a
  · rw [meetF_out (by rw [ha]; rfl)]
    refine ret_of Try.func24 rfl rfl rfl ?_
    refine RC.use (crossRight_of ha) rfl ?_
    exact ⟨rfl, rfl, trivial⟩
  cases hb : rt b
  · rw [meetF_out (by rw [ha, hb]; rfl)]
    refine ret_of Try.func24 rfl rfl rfl ?_
    refine RC.use (crossRight_of ha) rfl ?_
    refine RC.use (crossRight_of hb) rfl ?_
    exact ⟨rfl, rfl, trivial⟩
  cases hc : rt c
  · rw [meetF_out (by rw [ha, hb, hc]; rfl)]
    refine ret_of Try.func24 rfl rfl rfl ?_
    refine RC.use (crossRight_of ha) rfl ?_
    refine RC.use (crossRight_of hb) rfl ?_
    refine RC.use (crossRight_of hc) rfl ?_
    exact ⟨rfl, rfl, trivial⟩
  cases hd : rt d
  · rw [meetF_out (by rw [ha, hb, hc, hd]; rfl)]
    refine ret_of Try.func24 rfl rfl rfl ?_
    refine RC.use (crossRight_of ha) rfl ?_
    refine RC.use (crossRight_of hb) rfl ?_
    refine RC.use (crossRight_of hc) rfl ?_
    refine RC.use (crossRight_of hd) rfl ?_
    exact ⟨rfl, rfl, trivial⟩
  cases h : crs c d a != crs c d b
  · rw [meetF_par ha hb hc hd h]
    exact meet_par ha hb hc hd h
  · rw [meetF_lines ha hb hc hd h]
    exact meet_lines ha hb hc hd h

end Go.Proofs.Ytllaijapijinoaa

namespace Go.Proofs.Ytllaijapijinoaa
set_option linter.unusedVariables false

def GoodF (n d : Int) : Prop := 0 < d ∧ Bd 154742504910672534362390528 d ∧ Bd 154742504910672534362390528 n
def GoodM : MT → Prop
  | .place xn xd yn yd => GoodF xn xd ∧ GoodF yn yd
  | _ => True
theorem good_one {x : Int} (h : Bd 134217728 x) : GoodF x 1 := ⟨by decide, ⟨by decide, by decide⟩, h.le (by decide)⟩
theorem at_good {p : Pt} (h : rt p = true) : GoodM (atF p) := ⟨good_one (rt_bd h).1, good_one (rt_bd h).2⟩
theorem rowL_rt {a b : Pt} (ha : rt a = true) (hb : rt b = true) : rt (rowL a b) = true := by unfold rowL; split <;> assumption
theorem rowH_rt {a b : Pt} (ha : rt a = true) (hb : rt b = true) : rt (rowH a b) = true := by unfold rowH; split <;> assumption
theorem lo_rt' {a b : Pt} (ha : rt a = true) (hb : rt b = true) : rt (lo a b) = true := by unfold lo; split <;> assumption
theorem hi_rt' {a b : Pt} (ha : rt a = true) (hb : rt b = true) : rt (hi a b) = true := by unfold hi; split <;> assumption
theorem partN_good {a b n d : Int} (ha : Bd 134217728 a) (hb : Bd 134217728 b) (hn : Bd 288230376151711744 n) (hd : Bd 576460752303423488 d) (h0 : d ≠ 0) : GoodF (partN a b n d) (nrmD d) := by
  have h := (part_bd ha hb hn hd).2.2
  unfold partN nrmN nrmD
  obtain ⟨d1, d2⟩ := hd
  split
  · exact ⟨by omega, ⟨by omega, by omega⟩, h⟩
  · exact ⟨by omega, ⟨by omega, by omega⟩, h.neg⟩
theorem row_good {a b c d : Pt} (ha : rt a = true) (hb : rt b = true) (hc : rt c = true) (hd : rt d = true) : GoodM (rowF a b c d) := by
  unfold rowF rowG
  split
  · exact at_good (rowL_rt (lo_rt' ha hb) (lo_rt' hc hd))
  · split <;> trivial
theorem par_good {a b c d : Pt} (ha : rt a = true) (hb : rt b = true) (hc : rt c = true) (hd : rt d = true) : GoodM (parG a b c d) := by
  unfold parG
  split
  · exact at_good ha
  split
  · trivial
  split
  · exact at_good hc
  split
  · trivial
  exact row_good ha hb hc hd
theorem meetF_good (a b c d : Pt) : GoodM (meetF a b c d) := by
  cases hr : (rt a && (rt b && (rt c && rt d)))
  · rw [meetF_out (by exact hr)]; trivial
  · simp only [Bool.and_eq_true] at hr
    obtain ⟨ha, hb, hc, hd⟩ := hr
    cases h : crs c d a != crs c d b
    · rw [meetF_par ha hb hc hd h]; exact par_good ha hb hc hd
    · rw [meetF_lines ha hb hc hd h]
      unfold linesF
      split
      · have b1 := crs_bd2 hc hd ha
        have b2 := crs_bd2 hc hd hb
        have h0 : crs c d a - crs c d b ≠ 0 := by
          have : crs c d a ≠ crs c d b := by simpa using h
          omega
        exact ⟨partN_good (rt_bd ha).1 (rt_bd hb).1 (b1.le (by decide)) ((b1.sub b2).le (by decide)) h0, partN_good (rt_bd ha).2 (rt_bd hb).2 (b1.le (by decide)) ((b1.sub b2).le (by decide)) h0⟩
      · trivial
theorem meetF_rt {a b c d : Pt} (h : meetF a b c d ≠ .no) : rt a = true ∧ rt b = true ∧ rt c = true ∧ rt d = true := by
  cases hr : (rt a && (rt b && (rt c && rt d)))
  · exact absurd (meetF_out hr) h
  · simpa only [Bool.and_eq_true] using hr

def isF (xn xd yn yd : Int) (p : Pt) : Bool := cmp3 (xn * 1) (p.x * xd) == 0 && cmp3 (yn * 1) (p.y * yd) == 0
def endsG (m : MT) (a b c d : Pt) : Bool := match m with
  | .no => true
  | .place xn xd yn yd => (isF xn xd yn yd a || isF xn xd yn yd b) && (isF xn xd yn yd c || isF xn xd yn yd d)
  | .along _ _ => (decide (a = c) && decide (b = d)) || (decide (a = d) && decide (b = c))
def endsF (a b c d : Pt) : Bool := endsG (meetF a b c d) a b c d
theorem endsF_ab (a b c d : Pt) : endsF b a c d = endsF a b c d := by
  unfold endsF
  rw [meetF_ab]
  unfold endsG
  cases meetF a b c d with
  | no => rfl
  | place xn xd yn yd => simp only [Bool.or_comm]
  | along p q => simp only [Bool.or_comm, Bool.and_comm]
theorem endsF_sw (a b c d : Pt) : endsF c d a b = endsF a b c d := by
  unfold endsF
  rw [meetF_sw]
  unfold endsG
  cases meetF a b c d with
  | no => rfl
  | place xn xd yn yd => simp only [Bool.and_comm]
  | along p q =>
    have e1 : decide (c = a) = decide (a = c) := by simp only [eq_comm]
    have e2 : decide (d = b) = decide (b = d) := by simp only [eq_comm]
    have e3 : decide (c = b) = decide (b = c) := by simp only [eq_comm]
    have e4 : decide (d = a) = decide (a = d) := by simp only [eq_comm]
    simp only [e1, e2, e3, e4, Bool.and_comm]

end Go.Proofs.Ytllaijapijinoaa

namespace Go.Proofs.Ytllaijapijinoaa
open Go.Cw
set_option linter.unusedVariables false

theorem fracCmp_of {n0 d0 n1 d1 : Int} (h0 : GoodF n0 d0) (h1 : GoodF n1 d1) : Ret Try.prog 33 [] [fr n0 d0, fr n1 d1] (i64 (cmp3 (n0 * d1) (n1 * d0))) [] :=
  fracCmp_ret n0 n1 d0 d1 _ ⟨h0.1, h1.1, h0.2.1.w (by decide), h1.2.1.w (by decide), h0.2.2.w (by decide), h1.2.2.w (by decide), by obtain ⟨_, _, q, _⟩ := h0; omega, by obtain ⟨_, _, q, _⟩ := h1; omega, rfl⟩
abbrev mt1c (xn xd yn yd : Int) : List AV := [i64 1, .int .i64 (IntKind.wrap .i64 (xn / 18446744073709551616)), .int .u64 (xn % 18446744073709551616), .int .i64 (IntKind.wrap .i64 (xd / 18446744073709551616)), .int .u64 (xd % 18446744073709551616),
  .int .i64 (IntKind.wrap .i64 (yn / 18446744073709551616)), .int .u64 (yn % 18446744073709551616), .int .i64 (IntKind.wrap .i64 (yd / 18446744073709551616)), .int .u64 (yd % 18446744073709551616), i64 0, i64 0, i64 0, i64 0]
theorem ends1_ret {xn xd yn yd : Int} (g : GoodM (.place xn xd yn yd)) {p : Pt} (hp : rt p = true) :
    Ret Try.prog 72 [.cells 60 (mt1c xn xd yn yd)] [pt p.x p.y, .ptr 0 0] (.bool (isF xn xd yn yd p)) [.cells 60 (mt1c xn xd yn yd)] := by
  have k := rt_bd hp
  refine ret_of Try.func72 rfl rfl rfl ?_
  refine RC.use (fracOf_ret p.x (k.1.i (by decide))) rfl ?_
  refine RC.use (fracCmp_of g.1 (good_one k.1)) rfl ?_
  refine BM.split (fun h => ?_) (fun h => ?_)
  · have h : (cmp3 (xn * 1) (p.x * xd) == 0) = true := h
    refine RC.use (fracOf_ret p.y (k.2.i (by decide))) rfl ?_
    refine RC.use (fracCmp_of g.2 (good_one k.2)) rfl ?_
    refine CL.yes (by kernel_rfl) ?_
    exact ⟨eq2 (.bool (cmp3 (yn * 1) (p.y * yd) == 0)) (by unfold isF; rw [h, Bool.true_and]) rfl, rfl, rfl, trivial⟩
  · have h : (cmp3 (xn * 1) (p.x * xd) == 0) = false := h
    refine CL.yes (by kernel_rfl) ?_
    exact ⟨eq2 (.bool false) (by unfold isF; rw [h, Bool.false_and]) rfl, rfl, rfl, trivial⟩

set_option maxHeartbeats 4000000 in
theorem ends_ret (a b c d : Pt) : Ret Try.prog 29 [] [pt a.x a.y, pt b.x b.y, pt c.x c.y, pt d.x d.y] (.bool (endsF a b c d)) [] := by
  have hm := meet_ret a b c d
  have hg := meetF_good a b c d
  have hr := @meetF_rt a b c d
  unfold endsF
  generalize meetF a b c d = M at *
  cases M with
  | no =>
    refine ret_of Try.func29 rfl rfl rfl ?_
    refine RC.use hm rfl ?_
    exact ⟨rfl, rfl, trivial⟩
  | along p q =>
    refine ret_of Try.func29 rfl rfl rfl ?_
    refine RC.use hm rfl ?_
    refine BM.split (fun h1 => ?_) (fun h1 => ?_)
    · have h1 : (a.x == c.x && (a.y == c.y && true)) = true := h1
      rw [ptB] at h1
      refine BM.split (fun h2 => ?_) (fun h2 => ?_)
      · have h2 : (b.x == d.x && (b.y == d.y && true)) = true := h2
        rw [ptB] at h2
        exact ⟨eq2 (.bool true) (by unfold endsG; simp only [h1, h2, Bool.and_self, Bool.true_or]) rfl, rfl, trivial⟩
      · have h2 : (b.x == d.x && (b.y == d.y && true)) = false := h2
        rw [ptB] at h2
        refine BM.split (fun h3 => ?_) (fun h3 => ?_)
        · have h3 : (a.x == d.x && (a.y == d.y && true)) = true := h3
          rw [ptB] at h3
          exact ⟨eq2 (.bool (b.x == c.x && (b.y == c.y && true))) (by rw [ptB]; unfold endsG; simp only [h1, h2, h3, Bool.and_false, Bool.false_or, Bool.true_and]) rfl, rfl, trivial⟩
        · have h3 : (a.x == d.x && (a.y == d.y && true)) = false := h3
          rw [ptB] at h3
          exact ⟨eq2 (.bool false) (by unfold endsG; simp only [h1, h2, h3, Bool.and_false, Bool.false_and, Bool.or_self]) rfl, rfl, trivial⟩
    · have h1 : (a.x == c.x && (a.y == c.y && true)) = false := h1
      rw [ptB] at h1
      refine BM.split (fun h3 => ?_) (fun h3 => ?_)
      · have h3 : (a.x == d.x && (a.y == d.y && true)) = true := h3
        rw [ptB] at h3
        exact ⟨eq2 (.bool (b.x == c.x && (b.y == c.y && true))) (by rw [ptB]; unfold endsG; simp only [h1, h3, Bool.false_and, Bool.false_or, Bool.true_and]) rfl, rfl, trivial⟩
      · have h3 : (a.x == d.x && (a.y == d.y && true)) = false := h3
        rw [ptB] at h3
        exact ⟨eq2 (.bool false) (by unfold endsG; simp only [h1, h3, Bool.false_and, Bool.or_self]) rfl, rfl, trivial⟩
  | place xn xd yn yd =>
    have hR := hr (by intro e; cases e)
    refine ret_of Try.func29 rfl rfl rfl ?_
    refine RC.use hm rfl ?_
    refine ⟨[4], .bool (isF xn xd yn yd a), [.cells 60 (mt1c xn xd yn yd)], rfl, ?_, rfl, ?_⟩
    · exact ends1_ret hg hR.1
    refine BM.split (fun h1 => ?_) (fun h1 => ?_)
    · have h1 : isF xn xd yn yd a = true := h1
      refine ⟨[4], .bool (isF xn xd yn yd c), [.cells 60 (mt1c xn xd yn yd)], rfl, ?_, rfl, ?_⟩
      · exact ends1_ret hg hR.2.2.1
      refine BM.split (fun h2 => ?_) (fun h2 => ?_)
      · have h2 : isF xn xd yn yd c = true := h2
        exact ⟨eq2 (.bool true) (by unfold endsG; simp only [h1, h2, Bool.true_or, Bool.and_self]) rfl, rfl, trivial⟩
      · have h2 : isF xn xd yn yd c = false := h2
        refine ⟨[4], .bool (isF xn xd yn yd d), [.cells 60 (mt1c xn xd yn yd)], rfl, ?_, rfl, ?_⟩
        · exact ends1_ret hg hR.2.2.2
        exact ⟨eq2 (.bool (isF xn xd yn yd d)) (by unfold endsG; simp only [h1, h2, Bool.true_or, Bool.false_or, Bool.true_and]) rfl, rfl, trivial⟩
    · have h1 : isF xn xd yn yd a = false := h1
      refine ⟨[4], .bool (isF xn xd yn yd b), [.cells 60 (mt1c xn xd yn yd)], rfl, ?_, rfl, ?_⟩
      · exact ends1_ret hg hR.2.1
      refine BM.split (fun h3 => ?_) (fun h3 => ?_)
      · have h3 : isF xn xd yn yd b = true := h3
        refine ⟨[4], .bool (isF xn xd yn yd c), [.cells 60 (mt1c xn xd yn yd)], rfl, ?_, rfl, ?_⟩
        · exact ends1_ret hg hR.2.2.1
        refine BM.split (fun h2 => ?_) (fun h2 => ?_)
        · have h2 : isF xn xd yn yd c = true := h2
          exact ⟨eq2 (.bool true) (by unfold endsG; simp only [h1, h3, h2, Bool.false_or, Bool.true_or, Bool.and_self]) rfl, rfl, trivial⟩
        · have h2 : isF xn xd yn yd c = false := h2
          refine ⟨[4], .bool (isF xn xd yn yd d), [.cells 60 (mt1c xn xd yn yd)], rfl, ?_, rfl, ?_⟩
          · exact ends1_ret hg hR.2.2.2
          exact ⟨eq2 (.bool (isF xn xd yn yd d)) (by unfold endsG; simp only [h1, h3, h2, Bool.false_or, Bool.true_and]) rfl, rfl, trivial⟩
      · have h3 : isF xn xd yn yd b = false := h3
        exact ⟨eq2 (.bool false) (by unfold endsG; simp only [h1, h3, Bool.false_or, Bool.false_and]) rfl, rfl, trivial⟩

end Go.Proofs.Ytllaijapijinoaa

namespace Go.Proofs.Ytllaijapijinoaa
open Go.Cw
set_option linter.unusedVariables false

theorem fracCmp_refl {n d : Int} (h : GoodF n d) : Ret Try.prog 33 [] [fr n d, fr n d] (i64 0) [] := by
  have := fracCmp_of h h
  rw [cmp3_eq rfl] at this
  exact this
/-- A meeting's cells. -/
abbrev mtg (k a b c d e f g h i j l m : Int) : AV := .ag [i64 k, i64 a, u64 b, i64 c, u64 d, i64 e, u64 f, i64 g, u64 h, i64 i, i64 j, i64 l, i64 m]
set_option maxRecDepth 100000 in
theorem one_ret {M : MT} (g : GoodM M) : Ret Try.prog 31 [] [M.av, M.av] (.bool true) [] := by
  cases M with
  | no =>
    refine ret_of Try.func31 rfl rfl rfl ?_
    exact ⟨rfl, rfl, trivial⟩
  | place xn xd yn yd =>
    refine ret_of Try.func31 rfl rfl rfl ?_
    refine RC.use (fracCmp_refl g.1) rfl ?_
    refine RC.use (fracCmp_refl g.2) rfl ?_
    exact ⟨rfl, rfl, trivial⟩
  | along p q =>
    refine ret_of Try.func31 rfl rfl rfl ?_
    refine BM.split (fun _ => ?_) (fun h => ?_)
    · refine BM.split (fun _ => ?_) (fun h => ?_)
      · exact ⟨rfl, rfl, trivial⟩
      · have h : (q.x == q.x && (q.y == q.y && true)) = false := h
        simp at h
    · have h : (p.x == p.x && (p.y == p.y && true)) = false := h
      simp at h

theorem meet_of (a b c d : Pt) {M : MT} (h : meetF a b c d = M) : Ret Try.prog 24 [] [pt a.x a.y, pt b.x b.y, pt c.x c.y, pt d.x d.y] M.av [] := by
  rw [← h]; exact meet_ret a b c d
theorem ends_of (a b c d : Pt) {t : Bool} (h : endsF a b c d = t) : Ret Try.prog 29 [] [pt a.x a.y, pt b.x b.y, pt c.x c.y, pt d.x d.y] (.bool t) [] := by
  rw [← h]; exact ends_ret a b c d
theorem av_mtg (M : MT) : ∃ k a b c d e f g h i j l m : Int, M.av = mtg k a b c d e f g h i j l m := by
  cases M with
  | no => exact ⟨_, _, _, _, _, _, _, _, _, _, _, _, _, rfl⟩
  | place => exact ⟨_, _, _, _, _, _, _, _, _, _, _, _, _, rfl⟩
  | along => exact ⟨_, _, _, _, _, _, _, _, _, _, _, _, _, rfl⟩

end Go.Proofs.Ytllaijapijinoaa

namespace Go.Proofs.Ytllaijapijinoaa
open Go.Cw
set_option linter.unusedVariables false

theorem al1 : meetF ⟨0, 0⟩ ⟨3, 3⟩ ⟨0, 1⟩ ⟨1, 0⟩ = .place 3 6 3 6 := rfl
theorem al2 : meetF ⟨0, 0⟩ ⟨3, 3⟩ ⟨1, 1⟩ ⟨9, 9⟩ = .along ⟨1, 1⟩ ⟨3, 3⟩ := rfl
theorem al3 : endsF ⟨0, 0⟩ ⟨3, 3⟩ ⟨0, 1⟩ ⟨1, 0⟩ = false := rfl
theorem al4 : endsF ⟨0, 0⟩ ⟨3, 3⟩ ⟨3, 3⟩ ⟨0, 1⟩ = true := rfl
theorem al5 : meetF ⟨0, 0⟩ ⟨1, 0⟩ ⟨0, 1⟩ ⟨3, 3⟩ = .no := rfl
theorem al6 : rt ⟨3, 3⟩ = true := rfl
theorem al7 : Ret Try.prog 33 [] [fr 3 6, fr 1 2] (i64 0) [] :=
  fracCmp_of (n0 := 3) (d0 := 6) (n1 := 1) (d1 := 2) ⟨by decide, ⟨by decide, by decide⟩, ⟨by decide, by decide⟩⟩ ⟨by decide, ⟨by decide, by decide⟩, ⟨by decide, by decide⟩⟩
set_option maxRecDepth 100000 in
set_option maxHeartbeats 4000000 in
theorem alive_ret : Ret Try.prog 25 [] [] (.bool true) [] := by
  refine ret_of Try.func25 rfl rfl rfl ?_
  refine RC.use (wideOf_ret 1 (by decide) (by decide)) rfl ?_
  refine RC.use (wideOf_ret 2 (by decide) (by decide)) rfl ?_
  refine RC.use (meet_of _ _ _ _ al1) rfl ?_
  refine RC.use (meet_of _ _ _ _ al2) rfl ?_
  refine RC.use al7 rfl ?_
  refine RC.use al7 rfl ?_
  refine RC.use (ends_of _ _ _ _ al3) rfl ?_
  refine RC.use (ends_of _ _ _ _ al4) rfl ?_
  refine RC.use (meet_of _ _ _ _ al5) rfl ?_
  refine RC.use (crossRight_of al6) rfl ?_
  exact ⟨rfl, rfl, trivial⟩

end Go.Proofs.Ytllaijapijinoaa

namespace Go.Proofs.Ytllaijapijinoaa
set_option linter.unusedVariables false

/-- A fraction between two numbers. -/
def Bet (n d p q : Int) : Prop := mnE p q * d ≤ n * 1 ∧ n * 1 ≤ mxE p q * d
theorem bet_core {a b n d : Int} (h0 : 0 ≤ n) (h1 : n ≤ d) : Bet (a * d + (b - a) * n) d a b := by
  unfold Bet mnE mxE
  rcases Int.lt_or_le b a with h | h
  · rw [if_pos h, if_neg (by omega)]
    have e1 := Int.mul_nonneg (show 0 ≤ a - b by omega) h0
    have e2 := Int.mul_nonneg (show 0 ≤ a - b by omega) (show 0 ≤ d - n by omega)
    constructor <;> grind
  · rw [if_neg (by omega)]
    have e1 := Int.mul_nonneg (show 0 ≤ b - a by omega) h0
    have e2 := Int.mul_nonneg (show 0 ≤ b - a by omega) (show 0 ≤ d - n by omega)
    rcases Int.lt_or_le a b with h' | h'
    · rw [if_pos h']
      constructor <;> grind
    · have : a = b := by omega
      subst this
      rw [if_neg (by omega)]
      constructor <;> grind
theorem within_bet {a b n d : Int} (h : within n d = true) (h0 : d ≠ 0) : Bet (partN a b n d) (nrmD d) a b := by
  unfold within at h
  unfold partN nrmN nrmD
  rcases Int.lt_or_gt_of_ne h0 with q | q
  · rw [if_pos q] at h
    simp only [Bool.and_eq_true, decide_eq_true_eq] at h
    rw [if_neg (by omega), if_neg (by omega)]
    have := bet_core (a := a) (b := b) h.1 h.2
    rw [show a * -d + (b - a) * -n = -(a * d + (b - a) * n) by grind] at this
    exact this
  · rw [if_neg (by omega)] at h
    simp only [Bool.and_eq_true, decide_eq_true_eq] at h
    rw [if_pos q, if_pos q]
    exact bet_core h.1 h.2
theorem bet_one {x a b : Int} (h1 : mnE a b ≤ x) (h2 : x ≤ mxE a b) : Bet x 1 a b := ⟨by omega, by omega⟩
theorem bet_self (a : Int) : Bet a 1 a a := bet_one (by unfold mnE; split <;> omega) (by unfold mxE; split <;> omega)
theorem bet_l (a b : Int) : Bet a 1 a b := bet_one (by unfold mnE; split <;> omega) (by unfold mxE; split <;> omega)
theorem bet_r (a b : Int) : Bet b 1 a b := bet_one (by unfold mnE; split <;> omega) (by unfold mxE; split <;> omega)
theorem lo_or (a b : Pt) : lo a b = a ∨ lo a b = b := by unfold lo; split <;> simp
theorem hi_or (a b : Pt) : hi a b = a ∨ hi a b = b := by unfold hi; split <;> simp
theorem lo_ne_hi {a b : Pt} (h : a ≠ b) : lo a b ≠ hi a b := by
  unfold lo hi
  split
  · exact fun e => h e.symm
  · exact h
theorem rowG_place {l h : Pt} {xn xd yn yd : Int} (e : rowG l h = .place xn xd yn yd) : l = h ∧ .place xn xd yn yd = atF l := by
  unfold rowG at e
  split at e
  · rename_i hz
    exact ⟨(pcmp_zero l h).1 hz, e.symm⟩
  · split at e <;> cases e
theorem row_end {a b c d : Pt} (hcd : c ≠ d) {xn xd yn yd : Int} (e : rowF a b c d = .place xn xd yn yd) : ∃ L : Pt, (L = a ∨ L = b) ∧ .place xn xd yn yd = atF L := by
  obtain ⟨h1, h2⟩ := rowG_place e
  refine ⟨_, ?_, h2⟩
  have k1 : rowL (lo a b) (lo c d) = lo a b ∨ rowL (lo a b) (lo c d) = lo c d := by unfold rowL; split <;> simp
  have k2 : rowH (hi a b) (hi c d) = hi a b ∨ rowH (hi a b) (hi c d) = hi c d := by unfold rowH; split <;> simp
  rcases k1 with k1 | k1
  · rw [k1]; exact lo_or a b
  · rcases k2 with k2 | k2
    · rw [h1, k2]; exact hi_or a b
    · rw [k1, k2] at h1
      exact absurd h1 (lo_ne_hi hcd)
theorem at_bet {L a b : Pt} (h : L = a ∨ L = b) {xn xd yn yd : Int} (e : MT.place xn xd yn yd = atF L) : Bet xn xd a.x b.x ∧ Bet yn yd a.y b.y := by
  unfold atF at e
  cases e
  rcases h with rfl | rfl
  · exact ⟨bet_l _ _, bet_l _ _⟩
  · exact ⟨bet_r _ _, bet_r _ _⟩
theorem par_bet {a b c d : Pt} {xn xd yn yd : Int} (e : parG a b c d = .place xn xd yn yd) : Bet xn xd a.x b.x ∧ Bet yn yd a.y b.y := by
  unfold parG at e
  split at e
  · exact at_bet (.inl rfl) e.symm
  split at e
  · cases e
  split at e
  · rename_i h
    have h := h.2
    unfold onF holdsF at h
    simp only [Bool.and_eq_true, decide_eq_true_eq] at h
    unfold atF at e
    cases e
    rw [← mnE_min, ← mxE_max, ← mnE_min, ← mxE_max] at h
    exact ⟨bet_one h.2.1 h.2.2.1, bet_one h.2.2.2.1 h.2.2.2.2⟩
  split at e
  · cases e
  · rename_i h
    have hcd : c ≠ d := fun q => h (Or.inl q)
    obtain ⟨L, h1, h2⟩ := row_end hcd e
    exact at_bet h1 h2
theorem meet_bet {a b c d : Pt} {xn xd yn yd : Int} (e : meetF a b c d = .place xn xd yn yd) : Bet xn xd a.x b.x ∧ Bet yn yd a.y b.y := by
  obtain ⟨ha, hb, hc, hd⟩ := meetF_rt (by rw [e]; intro q; cases q)
  cases h : crs c d a != crs c d b
  · rw [meetF_par ha hb hc hd h] at e
    exact par_bet e
  · rw [meetF_lines ha hb hc hd h] at e
    have h0 : crs c d a - crs c d b ≠ 0 := by
      have : crs c d a ≠ crs c d b := by simpa using h
      omega
    unfold linesF at e
    split at e
    · rename_i hw
      cases e
      simp only [Bool.and_eq_true] at hw
      exact ⟨within_bet hw.1 h0, within_bet hw.1 h0⟩
    · cases e
theorem bet_lo {n d p q : Int} (h : Bet n d p q) : decide (cmp3 (mnE p q * d) (n * 1) > 0) = false := by
  rw [decide_eq_false_iff_not]
  have := h.1
  unfold cmp3
  split
  · omega
  · rw [if_neg (by omega)]; omega
theorem bet_hi {n d p q : Int} (h : Bet n d p q) : decide (cmp3 (n * 1) (mxE p q * d) > 0) = false := by
  rw [decide_eq_false_iff_not]
  have := h.2
  unfold cmp3
  split
  · omega
  · rw [if_neg (by omega)]; omega

/-! ### A segment and itself -/
theorem rowL_self (a : Pt) : rowL a a = a := by unfold rowL; split <;> rfl
theorem rowH_self (a : Pt) : rowH a a = a := by unfold rowH; split <;> rfl
theorem pcmp_lo_hi {a b : Pt} (h : a ≠ b) : pcmp (lo a b) (hi a b) = -1 := by
  have h1 := pcmp_cases a b
  have h2 := pcmp_cases b a
  have h3 := Pt.eq_iff a b
  unfold lo hi
  split
  · rcases h2 with q | q | q <;> first | exact q.1 | (exfalso; omega)
  · rcases h1 with q | q | q
    · exact q.1
    · exact absurd (h3.2 q.2) h
    · exfalso; omega
theorem rowG_lo_hi {a b : Pt} (h : a ≠ b) : rowG (lo a b) (hi a b) = .along (lo a b) (hi a b) := by
  unfold rowG
  rw [pcmp_lo_hi h]
  rfl
theorem meetF_row {a b c d : Pt} (ha : rt a = true) (hb : rt b = true) (hc : rt c = true) (hd : rt d = true) (hab : a ≠ b) (hcd : c ≠ d) (h1 : crs c d a = 0) (h2 : crs c d b = 0) (h3 : crs a b c = 0) :
    meetF a b c d = rowF a b c d := by
  rw [meetF_par ha hb hc hd (by rw [h1, h2]; rfl)]
  unfold parG
  rw [if_neg (by simp [hab]), if_neg (by simp [hab, h1]), if_neg (by simp [hcd]), if_neg (by simp [hcd, h3])]
theorem self_meet {a b : Pt} (ha : rt a = true) (hb : rt b = true) (h : a ≠ b) : meetF a b b a = .along (lo a b) (hi a b) := by
  rw [meetF_row ha hb hb ha h (fun e => h e.symm) (crs_abb _ _) (crs_aba _ _) (crs_abb _ _)]
  unfold rowF
  rw [lo_comm a b, hi_comm a b, rowL_self, rowH_self, rowG_lo_hi h]
theorem self_ends {a b : Pt} (ha : rt a = true) (hb : rt b = true) (h : a ≠ b) : endsF a b b a = true := by
  unfold endsF
  rw [self_meet ha hb h]
  simp [endsG]
/-- The point that is as far behind b as a is ahead. -/
def dbl (a b : Pt) : Pt := ⟨2 * b.x - a.x, 2 * b.y - a.y⟩
theorem dbl_ne {a b : Pt} (h : a ≠ b) : b ≠ dbl a b := fun e => h (by
  rw [Pt.eq_iff] at e ⊢
  simp only [dbl] at e
  omega)
theorem dbl_ne' {a b : Pt} (h : a ≠ b) : a ≠ dbl a b := fun e => h (by
  rw [Pt.eq_iff] at e ⊢
  simp only [dbl] at e
  omega)
theorem lohi (a b : Pt) : (pcmp a b = -1 → lo a b = a ∧ hi a b = b) ∧ (pcmp a b = 1 → lo a b = b ∧ hi a b = a) := by
  unfold lo hi
  constructor
  · intro h; rw [h]; exact ⟨rfl, rfl⟩
  · intro h; rw [h]; exact ⟨rfl, rfl⟩
theorem pcmp_lt {a b : Pt} (h : a.x < b.x ∨ a.x = b.x ∧ a.y < b.y) : pcmp a b = -1 := by
  have := pcmp_cases a b
  omega
theorem pcmp_gt {a b : Pt} (h : b.x < a.x ∨ a.x = b.x ∧ b.y < a.y) : pcmp a b = 1 := by
  have := pcmp_cases a b
  omega
theorem dbl_cases {a b : Pt} (h : a ≠ b) : (pcmp a b = -1 ∧ pcmp b (dbl a b) = -1 ∧ pcmp a (dbl a b) = -1 ∧ pcmp b a = 1 ∧ pcmp (dbl a b) b = 1 ∧ pcmp (dbl a b) a = 1) ∨ (pcmp a b = 1 ∧ pcmp b (dbl a b) = 1 ∧ pcmp a (dbl a b) = 1 ∧ pcmp b a = -1 ∧ pcmp (dbl a b) b = -1 ∧ pcmp (dbl a b) a = -1) := by
  rcases pcmp_cases a b with ⟨q, r⟩ | ⟨q, r⟩ | ⟨q, r⟩
  · left
    refine ⟨q, pcmp_lt ?_, pcmp_lt ?_, pcmp_gt ?_, pcmp_gt ?_, pcmp_gt ?_⟩ <;> (try simp only [dbl]) <;> omega
  · exact absurd ((Pt.eq_iff a b).2 r) h
  · right
    refine ⟨q, pcmp_gt ?_, pcmp_gt ?_, pcmp_lt ?_, pcmp_lt ?_, pcmp_lt ?_⟩ <;> (try simp only [dbl]) <;> omega
theorem pcmp_refl (a : Pt) : pcmp a a = 0 := (pcmp_zero a a).2 rfl
theorem next_meet {a b : Pt} (ha : rt a = true) (hb : rt b = true) (hc : rt (dbl a b) = true) (h : a ≠ b) : meetF a b b (dbl a b) = .place b.x 1 b.y 1 := by
  rw [meetF_row ha hb hb hc h (dbl_ne h) (by simp only [crs, dbl]; grind) (by simp only [crs, dbl]; grind) (crs_abb _ _)]
  unfold rowF
  rcases dbl_cases h with ⟨h1, h2, h3, h4, h5, h6⟩ | ⟨h1, h2, h3, h4, h5, h6⟩
  · rw [((lohi a b).1 h1).1, ((lohi a b).1 h1).2, ((lohi b _).1 h2).1, ((lohi b _).1 h2).2]
    simp [rowL, rowH, rowG, h1, h2, pcmp_refl, atF]
  · rw [((lohi a b).2 h1).1, ((lohi a b).2 h1).2, ((lohi b _).2 h2).1, ((lohi b _).2 h2).2]
    simp [rowL, rowH, rowG, h1, h2, pcmp_refl, atF]
theorem next_ends {a b : Pt} (ha : rt a = true) (hb : rt b = true) (hc : rt (dbl a b) = true) (h : a ≠ b) : endsF a b b (dbl a b) = true := by
  unfold endsF
  rw [next_meet ha hb hc h]
  have e : isF b.x 1 b.y 1 b = true := by
    unfold isF
    rw [cmp3_eq rfl, cmp3_eq rfl]
    rfl
  simp only [endsG, e, Bool.or_true, Bool.true_or, Bool.and_self]
theorem half_meet {a b : Pt} (ha : rt a = true) (hb : rt b = true) (hc : rt (dbl a b) = true) (h : a ≠ b) : meetF a (dbl a b) b a = .along (lo a b) (hi a b) := by
  rw [meetF_row ha hc hb ha (dbl_ne' h) (fun e => h e.symm) (crs_abb _ _) (by simp only [crs, dbl]; grind) (by simp only [crs, dbl]; grind)]
  unfold rowF
  rcases dbl_cases h with ⟨h1, h2, h3, h4, h5, h6⟩ | ⟨h1, h2, h3, h4, h5, h6⟩
  · rw [((lohi a b).1 h1).1, ((lohi a b).1 h1).2, ((lohi a _).1 h3).1, ((lohi a _).1 h3).2, ((lohi b a).2 h4).1, ((lohi b a).2 h4).2]
    simp [rowL, rowH, rowG, h1, h5, pcmp_refl]
  · rw [((lohi a b).2 h1).1, ((lohi a b).2 h1).2, ((lohi a _).2 h3).1, ((lohi a _).2 h3).2, ((lohi b a).1 h4).1, ((lohi b a).1 h4).2]
    simp [rowL, rowH, rowG, h4, h5, pcmp_refl]
theorem half_ends {a b : Pt} (ha : rt a = true) (hb : rt b = true) (hc : rt (dbl a b) = true) (h : a ≠ b) : endsF a (dbl a b) b a = false := by
  unfold endsF
  rw [half_meet ha hb hc h]
  have e := dbl_ne h
  have e' : ¬ dbl a b = b := fun q => e q.symm
  simp [endsG, h, e']

end Go.Proofs.Ytllaijapijinoaa

/-
  Parts of one proof, in their order: From a law's contract to its row: arguments of points, nothing of memory read. Conditions: those in each statement. · The contract of the law CrossPlaces. Conditions: none. · The contract of the law CrossSelf. Conditions: none. · The statement 'CrossSelf': a segment has all of itself in common with itself; with one that goes on straight just that place; with its two halves each half. Conditions: none.
-/
import Derived.Test.YtllaijapijinoaaRows
import Derived.WalkKit
import Derived.ProofKit
import Derived.OpenShut
import Derived.Test.YtllaijapijinoaaB2
import Derived.Test.YtllaijapijinoaaB4
set_option linter.all false
namespace Go.Proofs.Ytllaijapijinoaa
open Go.Cw Go.ChangeShapes Go.WideShapes Go.ChangeAt Go.RowKit
set_option linter.unusedVariables false

theorem own : ownKnob Try.prog.godebug = none := by kernel_rfl
theorem kept_of_sat {cx : Ctx} {h : PH} {ρ : Ro} {B : Nat → ABlk} {w : World} (s : Sat cx h ρ B w) (hown : ∀ q, ¬ cx.own q) (may : MemPlace → Prop) : cx.w0.keptBut w may := by
  refine ⟨s.os, s.output, fun i hi => ?_⟩
  rw [s.frame i hi (hown i)]
  cases cx.w0.heap[i]? with
  | none => rfl
  | some o => cases o with
    | cells c t fr => exact ⟨rfl, rfl, rfl, fun _ _ => rfl⟩
    | map es cl => exact .inr ⟨rfl, rfl⟩
    | _ => rfl
section
variable {P : Program}
/-- A law that holds for these arguments. -/
theorem calls_of_ret {f : FuncId} {fn : Func} {c : Code} (hf : P.funcs[f]? = some fn) (hb : fn.body = some c) (hname : (fn.name == "runtime.NumGoroutine") = false) {args : List AV} {vals : List Value}
    (R : Ret P f [] args (.bool true) []) (hl : vals.length = args.length) (hv : ∀ (j : Nat) x v, args[j]? = some x → vals[j]? = some v → R1 (fun _ => none) (fun _ => none) x v) (W : World) :
    Calls P f vals.toArray W fun e W' => e = .returned (.bool true) ∧ ∀ may, W.keptBut W' may := by
  have h := R.run W (fun _ => none) (fun _ => none) vals (fun g o hg => by cases hg) (fun id => trivial) (fun id q hq => rfl) (fun id id' q hq _ => by simp [blkOf] at hq) (fun id _ => rfl) hl hv
  have hname' : ¬ fn.name = "runtime.NumGoroutine" := by simpa using hname
  have hcall : (callFunc f vals.toArray).run P W = .ok (.enter f vals.toArray) W := by
    simp [callFunc, go_sem, hf, hb, hname']
  unfold CF at h
  rw [hcall] at h
  refine Calls.mono h fun e w'' he => ?_
  obtain ⟨v, rfl, h', ρ', _, _, r, s⟩ := he
  refine ⟨by rw [r.bool_inv], fun may => kept_of_sat s (fun q hq => ?_) may⟩
  obtain ⟨id, hq⟩ := hq
  simp [blkOf] at hq

variable {H : Type} {enc : TypeId × Value → H} {w : World} {base : Nat} {spare : Nat → Bool} {held : Bool} {fuel : Nat} {cs : List Value} {x : DataW H × List MemPlace}
abbrev dpt (a b : Int) : DataW H := .agg [.lit (.int .i64 a), .lit (.int .i64 b)]
abbrev okI (a : Int) : Prop := (Lit.int .i64 a).wf = true
/-- A type of points: its number, its fields' type. -/
structure IsPt (P : Program) (tp ti : TypeId) : Prop where
  up : ∃ f0 f1 : Field, P.underlying tp = some (.struct #[f0, f1]) ∧ f0.type = ti ∧ f1.type = ti ∧ f0.offset = 0 ∧ f1.offset = 1
  ui : P.underlying ti = some (.int .i64)
  cp : P.cellsOf tp = 2
  ci : P.cellsOf ti = 1
variable {tp ti ta : TypeId}
theorem open_pt (T : IsPt P tp ti) (h : DataW.trod enc P w base spare held fuel tp cs = some x) :
    ∃ a b : Int, cs = [.int .i64 a, .int .i64 b] ∧ x = (dpt a b, []) ∧ okI a ∧ okI b := by
  obtain ⟨f0, f1, hu, t0, t1, o0, o1⟩ := T.up
  obtain ⟨y0, y1, n, rfl, hl, h0, h1⟩ := trod_struct2 hu h
  rw [T.cp] at hl
  match cs, hl with
  | [c0, c1], _ =>
    rw [t0, o0, T.ci] at h0
    rw [t1, o1, T.ci] at h1
    obtain ⟨a, e0, rfl, w0⟩ := DataW.trod_int T.ui h0
    obtain ⟨b, e1, rfl, w1⟩ := DataW.trod_int T.ui h1
    simp at e0 e1
    subst e0; subst e1
    exact ⟨a, b, rfl, rfl, w0, w1⟩
theorem shut_pt (T : IsPt P tp ti) {a b : Int} (wa : okI a) (wb : okI b) (n : Nat) : DataW.trod enc P w base spare held (n + 2) tp [.int .i64 a, .int .i64 b] = some (dpt a b, []) := by
  obtain ⟨f0, f1, hu, t0, t1, o0, o1⟩ := T.up
  refine trod_struct2_mk (y0 := (.lit (.int .i64 a), [])) (y1 := (.lit (.int .i64 b), [])) hu (by rw [T.cp]; rfl) ?_ ?_
  · rw [t0, o0, T.ci]; exact trod_int_mk n T.ui wa
  · rw [t1, o1, T.ci]; exact trod_int_mk n T.ui wb
theorem open_point (T : IsPt P tp ti) {v : Value} {d : DataW H} {ps : List MemPlace} {r : Reach} {b0 : Nat} (hval : Value.okWide P w r b0 tp v) (hd : DataW.Trod enc P w base spare held tp v d ps) :
    ∃ a b : Int, v = .agg #[.int .i64 a, .int .i64 b] ∧ d = dpt a b ∧ ps = [] ∧ okI a ∧ okI b := by
  obtain ⟨f0, f1, hu, _⟩ := T.up
  unfold Value.okWide at hval
  rw [hu] at hval
  obtain ⟨cs, rfl, hsz, _⟩ := hval
  obtain ⟨fuel, hf⟩ := hd
  obtain ⟨a, b, e, rfl', wa, wb⟩ := open_pt T hf
  obtain ⟨l, rfl⟩ : ∃ l : List Value, cs = l.toArray := ⟨cs.toList, by simp⟩
  have e : l = [.int .i64 a, .int .i64 b] := e
  subst e
  simp only [Prod.mk.injEq] at rfl'
  exact ⟨a, b, rfl, rfl'.1, rfl'.2, wa, wb⟩
theorem shut_point (T : IsPt P tp ti) {a b : Int} (wa : okI a) (wb : okI b) : DataW.Trod enc P w base spare held tp (.agg #[.int .i64 a, .int .i64 b]) (dpt a b) [] := ⟨2, shut_pt T wa wb 0⟩
abbrev vpts (a b c d e f g i : Int) : Value := .agg #[.int .i64 a, .int .i64 b, .int .i64 c, .int .i64 d, .int .i64 e, .int .i64 f, .int .i64 g, .int .i64 i]
abbrev dpts (a b c d e f g i : Int) : DataW H := .agg [dpt a b, dpt c d, dpt e f, dpt g i]
theorem open_pts (T : IsPt P tp ti) (ha : P.underlying ta = some (.array 4 tp)) (hc : P.cellsOf ta = 8) {v : Value} {d : DataW H} {ps : List MemPlace} {r : Reach} {b0 : Nat} (hval : Value.okWide P w r b0 ta v) (hd : DataW.Trod enc P w base spare held ta v d ps) :
    ∃ a b c d' e f g i : Int, v = vpts a b c d' e f g i ∧ d = dpts a b c d' e f g i ∧ ps = [] ∧ (okI a ∧ okI b ∧ okI c ∧ okI d' ∧ okI e ∧ okI f ∧ okI g ∧ okI i) := by
  unfold Value.okWide at hval
  rw [ha] at hval
  obtain ⟨cs, rfl, hsz, _⟩ := hval
  obtain ⟨fuel, hf⟩ := hd
  obtain ⟨xs, m, rfl, hx, hl, hxl, hel⟩ := DataW.trod_array ha hf
  rw [hc] at hl
  obtain ⟨l, rfl⟩ : ∃ l : List Value, cs = l.toArray := ⟨cs.toList, by simp⟩
  have hl : l.length = 8 := hl
  have hel : ∀ (i : Nat), i < 4 → DataW.trod enc P w base spare held m tp ((l.drop (i * P.cellsOf tp)).take (P.cellsOf tp)) = xs[i]? := hel
  rw [T.cp] at hel
  match l, hl, xs, hxl with
  | [c0, c1, c2, c3, c4, c5, c6, c7], _, [y0, y1, y2, y3], _ =>
    obtain ⟨a0, b0, e0, z0, w0, w0'⟩ := open_pt T (hel 0 (by decide))
    obtain ⟨a1, b1, e1, z1, w1, w1'⟩ := open_pt T (hel 1 (by decide))
    obtain ⟨a2, b2, e2, z2, w2, w2'⟩ := open_pt T (hel 2 (by decide))
    obtain ⟨a3, b3, e3, z3, w3, w3'⟩ := open_pt T (hel 3 (by decide))
    simp at e0 e1 e2 e3
    subst z0 z1 z2 z3
    obtain ⟨rfl, rfl⟩ := e0
    obtain ⟨rfl, rfl⟩ := e1
    obtain ⟨rfl, rfl⟩ := e2
    obtain ⟨rfl, rfl⟩ := e3
    have h1 : d = dpts a0 b0 a1 b1 a2 b2 a3 b3 := congrArg Prod.fst hx
    have h2 : ps = [] := congrArg Prod.snd hx
    exact ⟨a0, b0, a1, b1, a2, b2, a3, b3, rfl, h1, h2, w0, w0', w1, w1', w2, w2', w3, w3'⟩
theorem shut_pts (T : IsPt P tp ti) (ha : P.underlying ta = some (.array 4 tp)) (hc : P.cellsOf ta = 8) {a b c d e f g i : Int} (wa : okI a ∧ okI b ∧ okI c ∧ okI d ∧ okI e ∧ okI f ∧ okI g ∧ okI i) : DataW.Trod enc P w base spare held ta (vpts a b c d e f g i) (dpts a b c d e f g i) [] := by
  obtain ⟨w0, w1, w2, w3, w4, w5, w6, w7⟩ := wa
  refine ⟨3, ?_⟩
  show DataW.trod enc P w base spare held 3 ta [.int .i64 a, .int .i64 b, .int .i64 c, .int .i64 d, .int .i64 e, .int .i64 f, .int .i64 g, .int .i64 i] = _
  have s0 : DataW.trod enc P w base spare held 2 tp [.int .i64 a, .int .i64 b] = some (dpt a b, []) := shut_pt T w0 w1 0
  have s1 : DataW.trod enc P w base spare held 2 tp [.int .i64 c, .int .i64 d] = some (dpt c d, []) := shut_pt T w2 w3 0
  have s2 : DataW.trod enc P w base spare held 2 tp [.int .i64 e, .int .i64 f] = some (dpt e f, []) := shut_pt T w4 w5 0
  have s3 : DataW.trod enc P w base spare held 2 tp [.int .i64 g, .int .i64 i] = some (dpt g i, []) := shut_pt T w6 w7 0
  unfold DataW.trod
  rw [ha]
  simp only [hc, T.cp]
  have hr : List.range 4 = [0, 1, 2, 3] := rfl
  rw [hr]
  simp [s0, s1, s2, s3]
end
theorem okI_bd {a : Int} (h : okI a) : -9223372036854775808 ≤ a ∧ a ≤ 9223372036854775807 := by
  have := bounds_i64 h
  omega
theorem isPt : IsPt Try.prog 27 3 := ⟨⟨_, _, Try.underlying27, rfl, rfl, rfl, rfl⟩, Try.underlying3, by kernel_rfl, by kernel_rfl⟩
theorem cells53 : Try.prog.cellsOf 53 = 8 := by kernel_rfl
theorem r0_int {h : PH} {ρ : Ro} {l : List Int} : ∀ (j : Nat) c v, (l.map (fun n => AV.int .i64 n))[j]? = some c → (l.map (fun n => Value.int .i64 n))[j]? = some v → R0 h ρ c v := by
  intro j c v e1 e2
  rw [List.getElem?_map, Option.map_eq_some_iff] at e1 e2
  obtain ⟨n, h1, rfl⟩ := e1
  obtain ⟨n', h2, rfl⟩ := e2
  rw [h1] at h2
  cases h2
  exact .lf (.cl rfl (.int _ _))
theorem r1_ints {h : PH} {ρ : Ro} (l : List Int) : R1 h ρ (.ag (l.map (fun n => AV.int .i64 n))) (.agg (l.map (fun n => Value.int .i64 n)).toArray) :=
  .ag _ _ (by simp) r0_int

end Go.Proofs.Ytllaijapijinoaa

namespace Go.Proofs.Ytllaijapijinoaa
open Go.Cw
set_option linter.unusedVariables false

theorem mn_bd {p q : Int} (hp : Bd 134217728 p) (hq : Bd 134217728 q) : Bd 134217728 (mnE p q) := by unfold mnE; split <;> assumption
theorem mx_bd {p q : Int} (hp : Bd 134217728 p) (hq : Bd 134217728 q) : Bd 134217728 (mxE p q) := by unfold mxE; split <;> assumption
abbrev pts8 (a b c d : Pt) : List AV := [i64 a.x, i64 a.y, i64 b.x, i64 b.y, i64 c.x, i64 c.y, i64 d.x, i64 d.y]
def ix2 : Nat → Int
  | 0 => 0
  | 1 => 2
  | _ => 4
def placesS (a b c d : Pt) (xn xd yn yd : Int) (k : Nat) : St :=
  ⟨[(1, .ptr 0 0), (3, .ptr 1 0), (4, i64 (ix2 k))], [(0, .cells 53 (pts8 a b c d)), (1, .cells 60 (mt1c xn xd yn yd))], 2⟩
set_option maxRecDepth 100000 in
set_option maxHeartbeats 8000000 in
theorem places_walk {a b c d : Pt} {xn xd yn yd : Int} (ra : rt a = true) (rb : rt b = true) (rc : rt c = true) (rd : rt d = true) (g : GoodM (.place xn xd yn yd))
    (hM : Ret Try.prog 24 [] [pt a.x a.y, pt b.x b.y, pt c.x c.y, pt d.x d.y] (mt1 xn xd yn yd) [])
    (x1 : Bet xn xd a.x b.x) (y1 : Bet yn yd a.y b.y) (x2 : Bet xn xd c.x d.x) (y2 : Bet yn yd c.y d.y) :
    Ret Try.prog 9 [] [.ag (pts8 a b c d)] (.bool true) [] := by
  have ka := rt_bd ra
  have kb := rt_bd rb
  have kc := rt_bd rc
  have kd := rt_bd rd
  refine ret_cut [2] Try.func9 rfl rfl rfl ?_
  refine RC.use hM rfl ?_
  refine ⟨⟨[(1, .ptr 0 0), (3, .ptr 1 0)], [(0, .cells 53 (pts8 a b c d)), (1, .cells 60 (mt1c xn xd yn yd))], 2⟩, [(0, 0), (1, 1)], ⟨rfl, rfl, rfl, ⟨rfl, rfl, rfl, rfl, trivial⟩, ⟨rfl, rfl, rfl, rfl, trivial⟩⟩, ?_⟩
  refine ⟨Nat, placesS a b c d xn xd yn yd, fun k => k ≤ 2, fun k => 2 - k, 0, [(0, 0), (1, 1)], Nat.zero_le _, ⟨rfl, rfl, rfl, ⟨rfl, rfl, rfl, rfl, rfl, rfl, trivial⟩, ⟨rfl, rfl, rfl, rfl, trivial⟩⟩, ?_⟩
  intro k hk
  have hk : k ≤ 2 := hk
  have : k = 0 ∨ k = 1 ∨ k = 2 := by omega
  rcases this with rfl | rfl | rfl
  · refine CL.yes (by kernel_rfl) ?_
    refine RC.use (fracOf_ret (mnE a.x b.x) ((mn_bd ka.1 kb.1).i (by decide))) rfl ?_
    refine RC.use (fracCmp_of (good_one (mn_bd ka.1 kb.1)) g.1) rfl ?_
    refine BM.split (fun h => ?_) (fun _ => ?_)
    · exact absurd (h.symm.trans (bet_lo x1)) (by decide)
    refine RC.use (fracOf_ret (mxE a.x b.x) ((mx_bd ka.1 kb.1).i (by decide))) rfl ?_
    refine RC.use (fracCmp_of g.1 (good_one (mx_bd ka.1 kb.1))) rfl ?_
    refine BM.split (fun h => ?_) (fun _ => ?_)
    · exact absurd (h.symm.trans (bet_hi x1)) (by decide)
    refine RC.use (fracOf_ret (mnE a.y b.y) ((mn_bd ka.2 kb.2).i (by decide))) rfl ?_
    refine RC.use (fracCmp_of (good_one (mn_bd ka.2 kb.2)) g.2) rfl ?_
    refine BM.split (fun h => ?_) (fun _ => ?_)
    · exact absurd (h.symm.trans (bet_lo y1)) (by decide)
    refine RC.use (fracOf_ret (mxE a.y b.y) ((mx_bd ka.2 kb.2).i (by decide))) rfl ?_
    refine RC.use (fracCmp_of g.2 (good_one (mx_bd ka.2 kb.2))) rfl ?_
    refine CL.yes (by kernel_rfl) ?_
    refine BM.split (fun h => ?_) (fun _ => ?_)
    · exact absurd (h.symm.trans (bet_hi y1)) (by decide)
    exact ⟨1, [(0, 0), (1, 1)], (by decide : 1 ≤ 2), (by decide : 2 - 1 < 2 - 0), ⟨rfl, rfl, rfl, ⟨rfl, rfl, rfl, rfl, rfl, rfl, trivial⟩, ⟨rfl, rfl, rfl, rfl, trivial⟩⟩⟩
  · refine CL.yes (by kernel_rfl) ?_
    refine RC.use (fracOf_ret (mnE c.x d.x) ((mn_bd kc.1 kd.1).i (by decide))) rfl ?_
    refine RC.use (fracCmp_of (good_one (mn_bd kc.1 kd.1)) g.1) rfl ?_
    refine BM.split (fun h => ?_) (fun _ => ?_)
    · exact absurd (h.symm.trans (bet_lo x2)) (by decide)
    refine RC.use (fracOf_ret (mxE c.x d.x) ((mx_bd kc.1 kd.1).i (by decide))) rfl ?_
    refine RC.use (fracCmp_of g.1 (good_one (mx_bd kc.1 kd.1))) rfl ?_
    refine BM.split (fun h => ?_) (fun _ => ?_)
    · exact absurd (h.symm.trans (bet_hi x2)) (by decide)
    refine RC.use (fracOf_ret (mnE c.y d.y) ((mn_bd kc.2 kd.2).i (by decide))) rfl ?_
    refine RC.use (fracCmp_of (good_one (mn_bd kc.2 kd.2)) g.2) rfl ?_
    refine BM.split (fun h => ?_) (fun _ => ?_)
    · exact absurd (h.symm.trans (bet_lo y2)) (by decide)
    refine RC.use (fracOf_ret (mxE c.y d.y) ((mx_bd kc.2 kd.2).i (by decide))) rfl ?_
    refine RC.use (fracCmp_of g.2 (good_one (mx_bd kc.2 kd.2))) rfl ?_
    refine CL.yes (by kernel_rfl) ?_
    refine BM.split (fun h => ?_) (fun _ => ?_)
    · exact absurd (h.symm.trans (bet_hi y2)) (by decide)
    exact ⟨2, [(0, 0), (1, 1)], (by decide : 2 ≤ 2), (by decide : 2 - 2 < 2 - 1), ⟨rfl, rfl, rfl, ⟨rfl, rfl, rfl, rfl, rfl, rfl, trivial⟩, ⟨rfl, rfl, rfl, rfl, trivial⟩⟩⟩
  · refine RC.use alive_ret rfl ?_
    refine RC.use (fracRight_pos xn xd g.1.1 (g.1.2.1.w (by decide))) rfl ?_
    refine RC.use (fracRight_pos yn yd g.2.1 (g.2.2.1.w (by decide))) rfl ?_
    exact ⟨rfl, rfl, trivial⟩
set_option maxRecDepth 100000 in
set_option maxHeartbeats 8000000 in
theorem places_no {a b c d : Pt} (hM : Ret Try.prog 24 [] [pt a.x a.y, pt b.x b.y, pt c.x c.y, pt d.x d.y] mt0 []) :
    Ret Try.prog 9 [] [.ag (pts8 a b c d)] (.bool true) [] := by
  refine ret_of Try.func9 rfl rfl rfl ?_
  refine RC.use hM rfl ?_
  refine RC.use alive_ret rfl ?_
  exact ⟨rfl, rfl, trivial⟩
set_option maxRecDepth 100000 in
set_option maxHeartbeats 8000000 in
theorem places_along {a b c d : Pt} {p0 p1 q0 q1 : Int} (hM : Ret Try.prog 24 [] [pt a.x a.y, pt b.x b.y, pt c.x c.y, pt d.x d.y] (mt2 p0 p1 q0 q1) []) :
    Ret Try.prog 9 [] [.ag (pts8 a b c d)] (.bool true) [] := by
  refine ret_of Try.func9 rfl rfl rfl ?_
  refine RC.use hM rfl ?_
  refine RC.use alive_ret rfl ?_
  exact ⟨rfl, rfl, trivial⟩
theorem places_ret (a b c d : Pt) : Ret Try.prog 9 [] [.ag (pts8 a b c d)] (.bool true) [] := by
  have hm := meet_ret a b c d
  have hg := meetF_good a b c d
  cases hM : meetF a b c d with
  | no => rw [hM] at hm; exact places_no hm
  | along p q => rw [hM] at hm; exact places_along hm
  | place xn xd yn yd =>
    have hr := meetF_rt (a := a) (b := b) (c := c) (d := d) (by rw [hM]; intro e; cases e)
    have h1 := meet_bet hM
    have h2 := meet_bet ((meetF_sw a b c d).trans hM)
    rw [hM] at hm hg
    exact places_walk hr.1 hr.2.1 hr.2.2.1 hr.2.2.2 hg hm h1.1 h1.2 h2.1 h2.2

end Go.Proofs.Ytllaijapijinoaa

namespace Go.Proofs.Ytllaijapijinoaa
open Go.Cw
set_option linter.unusedVariables false

theorem refRight_ret (p : Pt) : Ret Try.prog 16 [] [pt p.x p.y] (.bool (rt p)) [] := by
  refine ret_of Try.func16 rfl rfl rfl ?_
  refine BM.split (fun h1 => ?_) (fun h1 => ?_)
  · have h1 : decide (p.x ≤ 134217728) = true := h1
    refine BM.split (fun h2 => ?_) (fun h2 => ?_)
    · have h2 : decide (p.y ≤ 134217728) = true := h2
      refine BM.split (fun h3 => ?_) (fun h3 => ?_)
      · have h3 : decide (p.x ≥ -134217728) = true := h3
        exact ⟨eq2 (.bool (decide (p.y ≥ -134217728))) (by simp only [rt, inB, h1, h2, h3, Bool.true_and, Bool.and_true]) rfl, rfl, trivial⟩
      · have h3 : decide (p.x ≥ -134217728) = false := h3
        exact ⟨eq2 (.bool false) (by simp only [rt, inB, h3, Bool.false_and]) rfl, rfl, trivial⟩
    · have h2 : decide (p.y ≤ 134217728) = false := h2
      exact ⟨eq2 (.bool false) (by simp only [rt, inB, h2, Bool.and_false]) rfl, rfl, trivial⟩
  · have h1 : decide (p.x ≤ 134217728) = false := h1
    exact ⟨eq2 (.bool false) (by simp only [rt, inB, h1, Bool.and_false, Bool.false_and]) rfl, rfl, trivial⟩
theorem refRight_of {p : Pt} {t : Bool} (h : rt p = t) : Ret Try.prog 16 [] [pt p.x p.y] (.bool t) [] := by
  subst h; exact refRight_ret p
abbrev ptC (p : Pt) : ABlk := .cells 27 [i64 p.x, i64 p.y]
abbrev mt2c (px py qx qy : Int) : List AV := [i64 2, i64 0, u64 0, i64 0, u64 0, i64 0, u64 0, i64 0, u64 0, i64 px, i64 py, i64 qx, i64 qy]
def selfS (a b c p q : Pt) : St :=
  ⟨[(2, .ptr 0 0), (3, .ptr 1 0), (5, .ptr 2 0), (6, .ptr 3 0)], [(0, ptC a), (1, ptC b), (2, .cells 60 (mt2c p.x p.y q.x q.y)), (3, ptC c)], 4⟩
def selfS2 (a b c p q : Pt) : St :=
  ⟨[(2, .ptr 0 0), (3, .ptr 1 0), (5, .ptr 2 0), (6, .ptr 3 0), (7, .ptr 4 0), (8, .ptr 5 0)], [(0, ptC a), (1, ptC b), (2, .cells 60 (mt2c p.x p.y q.x q.y)), (3, ptC c),
    (4, .cells 60 (mt1c b.x 1 b.y 1)), (5, .cells 60 (mt2c p.x p.y q.x q.y))], 6⟩
theorem ptNe {a b : Pt} (h : a ≠ b) : (a.x == b.x && (a.y == b.y && true)) = false := by rw [ptB]; simpa using h
theorem ptSame (a : Pt) : (a.x == a.x && (a.y == a.y && true)) = true := by simp
theorem ptNe' {a b : Pt} (h : a ≠ b) : (!(a.x == b.x && (a.y == b.y && true))) = true := by rw [ptNe h]; rfl
theorem ptSame' (a : Pt) : (!(a.x == a.x && (a.y == a.y && true))) = false := by rw [ptSame]; rfl
set_option maxRecDepth 100000 in
set_option maxHeartbeats 8000000 in
theorem self_up {a b : Pt} (ra : rt a = true) (rb : rt b = true) (h : a ≠ b) (eP : lo a b = a) (eQ : hi a b = b) :
    Ret Try.prog 10 [] [pt a.x a.y, pt b.x b.y] (.bool true) [] := by
  have h' : b ≠ a := fun e => h e.symm
  have m0 := meet_of a b b a (self_meet ra rb h)
  have e0 := ends_of a b b a (self_ends ra rb h)
  rw [eP, eQ] at m0
  have ka := rt_bd ra
  have kb := rt_bd rb
  have ex : IntKind.wrap .i64 (IntKind.wrap .i64 (2 * b.x) - a.x) = (dbl a b).x := by
    obtain ⟨⟨_, _⟩, _⟩ := ka; obtain ⟨⟨_, _⟩, _⟩ := kb
    rw [IntKind.wrap_i64, IntKind.wrap_i64]; simp only [dbl]; omega
  have ey : IntKind.wrap .i64 (IntKind.wrap .i64 (2 * b.y) - a.y) = (dbl a b).y := by
    obtain ⟨_, _, _⟩ := ka; obtain ⟨_, _, _⟩ := kb
    rw [IntKind.wrap_i64, IntKind.wrap_i64]; simp only [dbl]; omega
  refine ret_cut [4, 1, 1, 1] Try.func10 rfl rfl rfl ?_
  refine RC.use (refRight_of ra) rfl ?_
  refine RC.use (refRight_of rb) rfl ?_
  refine BM.split (fun k => ?_) (fun _ => ?_)
  · exact absurd (k.symm.trans (ptNe h)) (by decide)
  refine RC.use m0 rfl ?_
  refine ⟨selfS a b (dbl a b) a b, [(0, 0), (1, 1), (2, 2), (3, 3)], ⟨rfl, rfl, rfl, ⟨rfl, rfl, rfl, rfl, rfl, rfl, rfl, rfl, trivial⟩, ⟨rfl, rfl, rfl, rfl, rfl, rfl, (show ABlk.cells 27 [i64 (IntKind.wrap .i64 (IntKind.wrap .i64 (2 * b.x) - a.x)), i64 (IntKind.wrap .i64 (IntKind.wrap .i64 (2 * b.y) - a.y))] = ptC (dbl a b) by rw [ex, ey]), rfl, trivial⟩⟩, ?_⟩
  refine RC.use e0 rfl ?_
  refine BM.split (fun k => ?_) (fun _ => ?_)
  · exact absurd (k.symm.trans (ptNe h)) (by decide)
  refine BM.split (fun k => ?_) (fun _ => ?_)
  · exact absurd (k.symm.trans (ptSame' a)) (by decide)
  refine BM.split (fun _ => ?_) (fun k => ?_)
  rotate_left
  · exact absurd ((ptNe' h').symm.trans k) (by decide)
  refine BM.split (fun k => ?_) (fun _ => ?_)
  · exact absurd (k.symm.trans (ptSame' b)) (by decide)
  refine ⟨selfS a b (dbl a b) a b, [(0, 0), (1, 1), (2, 2), (3, 3)], ⟨rfl, rfl, rfl, ⟨rfl, rfl, rfl, rfl, rfl, rfl, rfl, rfl, trivial⟩, ⟨rfl, rfl, rfl, rfl, rfl, rfl, rfl, rfl, trivial⟩⟩, ?_⟩
  refine RC.use (refRight_ret (dbl a b)) rfl ?_
  refine BM.split (fun k => ?_) (fun k => ?_)
  · refine RC.use alive_ret rfl ?_
    exact ⟨rfl, rfl, trivial⟩
  have k : (!rt (dbl a b)) = false := k
  have rc : rt (dbl a b) = true := by simpa using k
  have m1 := meet_of a b b (dbl a b) (next_meet ra rb rc h)
  have e1 := ends_of a b b (dbl a b) (next_ends ra rb rc h)
  have m2 := meet_of a (dbl a b) b a (half_meet ra rb rc h)
  have e2 := ends_of a (dbl a b) b a (half_ends ra rb rc h)
  rw [eP, eQ] at m2
  have o := one_ret (M := .along a b) trivial
  refine ⟨selfS a b (dbl a b) a b, [(0, 0), (1, 1), (2, 2), (3, 3)], ⟨rfl, rfl, rfl, ⟨rfl, rfl, rfl, rfl, rfl, rfl, rfl, rfl, trivial⟩, ⟨rfl, rfl, rfl, rfl, rfl, rfl, rfl, rfl, trivial⟩⟩, ?_⟩
  refine RC.use m1 rfl ?_
  refine RC.use m2 rfl ?_
  refine CL.yes (by kernel_rfl) ?_
  refine ⟨selfS2 a b (dbl a b) a b, [(0, 0), (1, 1), (2, 2), (3, 3), (4, 4), (5, 5)], ⟨rfl, rfl, rfl, ⟨rfl, rfl, rfl, rfl, rfl, rfl, rfl, rfl, rfl, rfl, rfl, rfl, trivial⟩, ⟨rfl, rfl, rfl, rfl, rfl, rfl, rfl, rfl, rfl, rfl, rfl, rfl, trivial⟩⟩, ?_⟩
  refine RC.use alive_ret rfl ?_
  refine RC.use (fracOf_ret b.x (kb.1.i (by decide))) rfl ?_
  refine RC.use (fracCmp_refl (good_one kb.1)) rfl ?_
  refine RC.use (fracOf_ret b.y (kb.2.i (by decide))) rfl ?_
  refine RC.use (fracCmp_refl (good_one kb.2)) rfl ?_
  refine RC.use e1 rfl ?_
  refine RC.use o rfl ?_
  refine RC.use e2 rfl ?_
  refine CL.yes (by kernel_rfl) ?_
  exact ⟨rfl, rfl, trivial⟩
set_option maxRecDepth 100000 in
set_option maxHeartbeats 8000000 in
theorem self_down {a b : Pt} (ra : rt a = true) (rb : rt b = true) (h : a ≠ b) (eP : lo a b = b) (eQ : hi a b = a) :
    Ret Try.prog 10 [] [pt a.x a.y, pt b.x b.y] (.bool true) [] := by
  have h' : b ≠ a := fun e => h e.symm
  have m0 := meet_of a b b a (self_meet ra rb h)
  have e0 := ends_of a b b a (self_ends ra rb h)
  rw [eP, eQ] at m0
  have ka := rt_bd ra
  have kb := rt_bd rb
  have ex : IntKind.wrap .i64 (IntKind.wrap .i64 (2 * b.x) - a.x) = (dbl a b).x := by
    obtain ⟨⟨_, _⟩, _⟩ := ka; obtain ⟨⟨_, _⟩, _⟩ := kb
    rw [IntKind.wrap_i64, IntKind.wrap_i64]; simp only [dbl]; omega
  have ey : IntKind.wrap .i64 (IntKind.wrap .i64 (2 * b.y) - a.y) = (dbl a b).y := by
    obtain ⟨_, _, _⟩ := ka; obtain ⟨_, _, _⟩ := kb
    rw [IntKind.wrap_i64, IntKind.wrap_i64]; simp only [dbl]; omega
  refine ret_cut [4, 1, 1, 1] Try.func10 rfl rfl rfl ?_
  refine RC.use (refRight_of ra) rfl ?_
  refine RC.use (refRight_of rb) rfl ?_
  refine BM.split (fun k => ?_) (fun _ => ?_)
  · exact absurd (k.symm.trans (ptNe h)) (by decide)
  refine RC.use m0 rfl ?_
  refine ⟨selfS a b (dbl a b) b a, [(0, 0), (1, 1), (2, 2), (3, 3)], ⟨rfl, rfl, rfl, ⟨rfl, rfl, rfl, rfl, rfl, rfl, rfl, rfl, trivial⟩, ⟨rfl, rfl, rfl, rfl, rfl, rfl, (show ABlk.cells 27 [i64 (IntKind.wrap .i64 (IntKind.wrap .i64 (2 * b.x) - a.x)), i64 (IntKind.wrap .i64 (IntKind.wrap .i64 (2 * b.y) - a.y))] = ptC (dbl a b) by rw [ex, ey]), rfl, trivial⟩⟩, ?_⟩
  refine RC.use e0 rfl ?_
  refine BM.split (fun k => ?_) (fun _ => ?_)
  · exact absurd (k.symm.trans (ptNe h')) (by decide)
  refine BM.split (fun _ => ?_) (fun k => ?_)
  rotate_left
  · exact absurd ((ptNe' h').symm.trans k) (by decide)
  refine BM.split (fun k => ?_) (fun _ => ?_)
  · exact absurd (k.symm.trans (ptSame' b)) (by decide)
  refine BM.split (fun k => ?_) (fun _ => ?_)
  · exact absurd (k.symm.trans (ptSame' a)) (by decide)
  refine ⟨selfS a b (dbl a b) b a, [(0, 0), (1, 1), (2, 2), (3, 3)], ⟨rfl, rfl, rfl, ⟨rfl, rfl, rfl, rfl, rfl, rfl, rfl, rfl, trivial⟩, ⟨rfl, rfl, rfl, rfl, rfl, rfl, rfl, rfl, trivial⟩⟩, ?_⟩
  refine RC.use (refRight_ret (dbl a b)) rfl ?_
  refine BM.split (fun k => ?_) (fun k => ?_)
  · refine RC.use alive_ret rfl ?_
    exact ⟨rfl, rfl, trivial⟩
  have k : (!rt (dbl a b)) = false := k
  have rc : rt (dbl a b) = true := by simpa using k
  have m1 := meet_of a b b (dbl a b) (next_meet ra rb rc h)
  have e1 := ends_of a b b (dbl a b) (next_ends ra rb rc h)
  have m2 := meet_of a (dbl a b) b a (half_meet ra rb rc h)
  have e2 := ends_of a (dbl a b) b a (half_ends ra rb rc h)
  rw [eP, eQ] at m2
  have o := one_ret (M := .along b a) trivial
  refine ⟨selfS a b (dbl a b) b a, [(0, 0), (1, 1), (2, 2), (3, 3)], ⟨rfl, rfl, rfl, ⟨rfl, rfl, rfl, rfl, rfl, rfl, rfl, rfl, trivial⟩, ⟨rfl, rfl, rfl, rfl, rfl, rfl, rfl, rfl, trivial⟩⟩, ?_⟩
  refine RC.use m1 rfl ?_
  refine RC.use m2 rfl ?_
  refine CL.yes (by kernel_rfl) ?_
  refine ⟨selfS2 a b (dbl a b) b a, [(0, 0), (1, 1), (2, 2), (3, 3), (4, 4), (5, 5)], ⟨rfl, rfl, rfl, ⟨rfl, rfl, rfl, rfl, rfl, rfl, rfl, rfl, rfl, rfl, rfl, rfl, trivial⟩, ⟨rfl, rfl, rfl, rfl, rfl, rfl, rfl, rfl, rfl, rfl, rfl, rfl, trivial⟩⟩, ?_⟩
  refine RC.use alive_ret rfl ?_
  refine RC.use (fracOf_ret b.x (kb.1.i (by decide))) rfl ?_
  refine RC.use (fracCmp_refl (good_one kb.1)) rfl ?_
  refine RC.use (fracOf_ret b.y (kb.2.i (by decide))) rfl ?_
  refine RC.use (fracCmp_refl (good_one kb.2)) rfl ?_
  refine RC.use e1 rfl ?_
  refine RC.use o rfl ?_
  refine RC.use e2 rfl ?_
  refine CL.yes (by kernel_rfl) ?_
  exact ⟨rfl, rfl, trivial⟩
set_option maxRecDepth 100000 in
theorem self_out {a b : Pt} (h : rt a = false ∨ rt b = false ∨ a = b) : Ret Try.prog 10 [] [pt a.x a.y, pt b.x b.y] (.bool true) [] := by
  cases ra : rt a
  · refine ret_of Try.func10 rfl rfl rfl ?_
    refine RC.use (refRight_of ra) rfl ?_
    refine RC.use alive_ret rfl ?_
    exact ⟨rfl, rfl, trivial⟩
  cases rb : rt b
  · refine ret_of Try.func10 rfl rfl rfl ?_
    refine RC.use (refRight_of ra) rfl ?_
    refine RC.use (refRight_of rb) rfl ?_
    refine RC.use alive_ret rfl ?_
    exact ⟨rfl, rfl, trivial⟩
  have e : a = b := by
    rcases h with h | h | h
    · rw [ra] at h; cases h
    · rw [rb] at h; cases h
    · exact h
  refine ret_of Try.func10 rfl rfl rfl ?_
  refine RC.use (refRight_of ra) rfl ?_
  refine RC.use (refRight_of rb) rfl ?_
  refine BM.split (fun _ => ?_) (fun k => ?_)
  · refine RC.use alive_ret rfl ?_
    exact ⟨rfl, rfl, trivial⟩
  · have k : (a.x == b.x && (a.y == b.y && true)) = false := k
    rw [e, ptSame] at k
    cases k
theorem self_ret (a b : Pt) : Ret Try.prog 10 [] [pt a.x a.y, pt b.x b.y] (.bool true) [] := by
  cases ra : rt a
  · exact self_out (.inl ra)
  cases rb : rt b
  · exact self_out (.inr (.inl rb))
  by_cases h : a = b
  · exact self_out (.inr (.inr h))
  rcases pcmp_cases a b with ⟨q, _⟩ | ⟨q, r⟩ | ⟨q, _⟩
  · exact self_up ra rb h ((lohi a b).1 q).1 ((lohi a b).1 q).2
  · exact absurd ((Pt.eq_iff a b).2 r) h
  · exact self_down ra rb h ((lohi a b).2 q).1 ((lohi a b).2 q).2

end Go.Proofs.Ytllaijapijinoaa

namespace Go.Proofs.Ytllaijapijinoaa
open Go.Cw Go.ChangeShapes Go.WideShapes Go.ChangeAt Go.RowKit
set_option linter.unusedVariables false

theorem self_calls (a b c d : Int) (W : World) :
    Calls Try.prog 10 #[.agg #[.int .i64 a, .int .i64 b], .agg #[.int .i64 c, .int .i64 d]] W fun e W' => e = .returned (.bool true) ∧ ∀ may, W.keptBut W' may := by
  refine calls_of_ret (vals := [.agg #[.int .i64 a, .int .i64 b], .agg #[.int .i64 c, .int .i64 d]]) Try.func10 rfl rfl (self_ret ⟨a, b⟩ ⟨c, d⟩) rfl (fun j x v e1 e2 => ?_) W
  match j with
  | 0 =>
    simp only [List.getElem?_cons_zero, Option.some.injEq] at e1 e2
    subst e1; subst e2
    exact r1_ints [a, b]
  | 1 =>
    simp only [List.getElem?_cons_succ, List.getElem?_cons_zero, Option.some.injEq] at e1 e2
    subst e1; subst e2
    exact r1_ints [c, d]
  | j + 2 => simp at e1

set_option maxRecDepth 100000 in
theorem self_lifted (os : Os) (started : os.Started) (H : Type) (enc : TypeId × Value → H) :
    ReturnsInHanded {} Try.checked os 10 .any (Rows.crossSelfSpec.pre6 enc Try.prog Try.f10 Rows.crossSelfRow.domain false) (Rows.crossSelfSpec.post enc Try.prog Try.f10 false true false false) := by
  refine returnsInHanded_of_change (C := Try.checked) own started (by kernel_rfl) Try.func10
    (ChangeSpec.witness6 (enc := enc) (C := Try.checked) false ⟨#[], #[.agg #[.int .i64 0, .int .i64 0], .agg #[.int .i64 0, .int .i64 0]], []⟩ 8 (by kernel_rfl) (by kernel_rfl) (by kernel_rfl) (by kernel_rfl)) ?_
  intro W base args ds gs before hval0 hW hcnd _
  have hval : ∀ (j : Nat) t v, Try.f10.params[j]? = some t → args[j]? = some v → Value.okWide Try.prog W .any base t v := hval0
  have hW' := hW
  obtain ⟨p, q, hA0, hV, rfl, hfz, hnd⟩ := hW
  have hA : DataW.TrodAll enc Try.prog W 0 (fun _ => true) true Try.f10.params.toList args.toList ds p := hA0
  rw [Try.params10] at hA hval
  obtain ⟨v0, vs0, d0, ds0, p0, q0, hargs, rfl, rfl, h0, r0⟩ := trodAll_cons hA
  obtain ⟨v1, vs1, d1, ds1, p1, q1, rfl, rfl, rfl, h1, r1⟩ := trodAll_cons r0
  obtain ⟨rfl, rfl, rfl⟩ := trodAll_nil r1
  obtain rfl : args = #[v0, v1] := by cases args; simp_all
  obtain ⟨rfl, rfl⟩ := trodVars_none hV
  obtain ⟨a, b, rfl, rfl, rfl, wa, wb⟩ := open_point isPt (hval 0 27 v0 rfl rfl) h0
  obtain ⟨c, d, rfl, rfl, rfl, wc, wd⟩ := open_point isPt (hval 1 27 v1 rfl rfl) h1
  clear hA0 hval0
  simp only [List.append_nil] at hW'
  refine (self_calls a b c d W).mono fun e' W' ⟨he, hg⟩ => ?_
  subst he
  exact ⟨_, rfl, ⟨_, _, [], [], [], [], hW', trodAll_cons_mk (shut_bool Try.underlying4 _) trodAll_mk0, trodAll_cons_mk (shut_point isPt wa wb) (trodAll_cons_mk (shut_point isPt wc wd) trodAll_mk0), rfl, hg _, fun h => by cases h⟩⟩

theorem self_over : Rows.crossSelfRow.holds Try.pinned (OpenSpec.ofChange Rows.crossSelfSpec) :=
  OpenClaim.holds_of_wide 10 Try.f10 rfl rfl rfl rfl rfl rfl rfl ⟨rfl, rfl, rfl, rfl, rfl⟩ rfl rfl rfl rfl rfl (by kernel_rfl) Try.func10 (by kernel_rfl)
    (of_decide_eq_true (by kernel_rfl)) (by unfold Func.isWrapper; first | (rw [if_pos (by decide +kernel)]; kernel_rfl) | (rw [if_neg (by decide +kernel)]; exact ⟨rfl, rfl⟩))
    (fun os started H enc _ => self_lifted os started H enc)

theorem crossSelf : Rows.CrossSelfSaid := self_over

#print axioms crossSelf
end Go.Proofs.Ytllaijapijinoaa

/-
  Parts of one proof, in their order: From a law's contract to its row: arguments of points, nothing of memory read. Conditions: those in each statement. · The contract of the law CrossPlaces. Conditions: none. · The contract of the law CrossSelf. Conditions: none. · The contracts of the document's answers on points and segments. Conditions: points that may be. · Points on segments: an end that is on the other segment is in the meeting; a common part is on both. Conditions: those in each statement. · The contract of the law CrossAlong. Conditions: none. · The statement 'CrossAlong': a part that two segments have in common is on both, its ends are ends of theirs, the lesser one first. Conditions: none.
-/
import Derived.Test.YtllaijapijinoaaRows
import Derived.WalkKit
import Derived.ProofKit
import Derived.OpenShut
import Derived.Test.YtllaijapijinoaaB2
import Derived.Test.YtllaijapijinoaaB4
set_option linter.all false
namespace Go.Proofs.Ytllaijapijinoaa
open Go.Cw Go.ChangeShapes Go.WideShapes Go.ChangeAt Go.RowKit
set_option linter.unusedVariables false

theorem own : ownKnob Try.prog.godebug = none := by kernel_rfl
theorem kept_of_sat {cx : Ctx} {h : PH} {ρ : Ro} {B : Nat → ABlk} {w : World} (s : Sat cx h ρ B w) (hown : ∀ q, ¬ cx.own q) (may : MemPlace → Prop) : cx.w0.keptBut w may := by
  refine ⟨s.os, s.output, fun i hi => ?_⟩
  rw [s.frame i hi (hown i)]
  cases cx.w0.heap[i]? with
  | none => rfl
  | some o => cases o with
    | cells c t fr => exact ⟨rfl, rfl, rfl, fun _ _ => rfl⟩
    | map es cl => exact .inr ⟨rfl, rfl⟩
    | _ => rfl
section
variable {P : Program}
/-- A law that holds for these arguments. -/
theorem calls_of_ret {f : FuncId} {fn : Func} {c : Code} (hf : P.funcs[f]? = some fn) (hb : fn.body = some c) (hname : (fn.name == "runtime.NumGoroutine") = false) {args : List AV} {vals : List Value}
    (R : Ret P f [] args (.bool true) []) (hl : vals.length = args.length) (hv : ∀ (j : Nat) x v, args[j]? = some x → vals[j]? = some v → R1 (fun _ => none) (fun _ => none) x v) (W : World) :
    Calls P f vals.toArray W fun e W' => e = .returned (.bool true) ∧ ∀ may, W.keptBut W' may := by
  have h := R.run W (fun _ => none) (fun _ => none) vals (fun g o hg => by cases hg) (fun id => trivial) (fun id q hq => rfl) (fun id id' q hq _ => by simp [blkOf] at hq) (fun id _ => rfl) hl hv
  have hname' : ¬ fn.name = "runtime.NumGoroutine" := by simpa using hname
  have hcall : (callFunc f vals.toArray).run P W = .ok (.enter f vals.toArray) W := by
    simp [callFunc, go_sem, hf, hb, hname']
  unfold CF at h
  rw [hcall] at h
  refine Calls.mono h fun e w'' he => ?_
  obtain ⟨v, rfl, h', ρ', _, _, r, s⟩ := he
  refine ⟨by rw [r.bool_inv], fun may => kept_of_sat s (fun q hq => ?_) may⟩
  obtain ⟨id, hq⟩ := hq
  simp [blkOf] at hq

variable {H : Type} {enc : TypeId × Value → H} {w : World} {base : Nat} {spare : Nat → Bool} {held : Bool} {fuel : Nat} {cs : List Value} {x : DataW H × List MemPlace}
abbrev dpt (a b : Int) : DataW H := .agg [.lit (.int .i64 a), .lit (.int .i64 b)]
abbrev okI (a : Int) : Prop := (Lit.int .i64 a).wf = true
/-- A type of points: its number, its fields' type. -/
structure IsPt (P : Program) (tp ti : TypeId) : Prop where
  up : ∃ f0 f1 : Field, P.underlying tp = some (.struct #[f0, f1]) ∧ f0.type = ti ∧ f1.type = ti ∧ f0.offset = 0 ∧ f1.offset = 1
  ui : P.underlying ti = some (.int .i64)
  cp : P.cellsOf tp = 2
  ci : P.cellsOf ti = 1
variable {tp ti ta : TypeId}
theorem open_pt (T : IsPt P tp ti) (h : DataW.trod enc P w base spare held fuel tp cs = some x) :
    ∃ a b : Int, cs = [.int .i64 a, .int .i64 b] ∧ x = (dpt a b, []) ∧ okI a ∧ okI b := by
  obtain ⟨f0, f1, hu, t0, t1, o0, o1⟩ := T.up
  obtain ⟨y0, y1, n, rfl, hl, h0, h1⟩ := trod_struct2 hu h
  rw [T.cp] at hl
  match cs, hl with
  | [c0, c1], _ =>
    rw [t0, o0, T.ci] at h0
    rw [t1, o1, T.ci] at h1
    obtain ⟨a, e0, rfl, w0⟩ := DataW.trod_int T.ui h0
    obtain ⟨b, e1, rfl, w1⟩ := DataW.trod_int T.ui h1
    simp at e0 e1
    subst e0; subst e1
    exact ⟨a, b, rfl, rfl, w0, w1⟩
theorem shut_pt (T : IsPt P tp ti) {a b : Int} (wa : okI a) (wb : okI b) (n : Nat) : DataW.trod enc P w base spare held (n + 2) tp [.int .i64 a, .int .i64 b] = some (dpt a b, []) := by
  obtain ⟨f0, f1, hu, t0, t1, o0, o1⟩ := T.up
  refine trod_struct2_mk (y0 := (.lit (.int .i64 a), [])) (y1 := (.lit (.int .i64 b), [])) hu (by rw [T.cp]; rfl) ?_ ?_
  · rw [t0, o0, T.ci]; exact trod_int_mk n T.ui wa
  · rw [t1, o1, T.ci]; exact trod_int_mk n T.ui wb
theorem open_point (T : IsPt P tp ti) {v : Value} {d : DataW H} {ps : List MemPlace} {r : Reach} {b0 : Nat} (hval : Value.okWide P w r b0 tp v) (hd : DataW.Trod enc P w base spare held tp v d ps) :
    ∃ a b : Int, v = .agg #[.int .i64 a, .int .i64 b] ∧ d = dpt a b ∧ ps = [] ∧ okI a ∧ okI b := by
  obtain ⟨f0, f1, hu, _⟩ := T.up
  unfold Value.okWide at hval
  rw [hu] at hval
  obtain ⟨cs, rfl, hsz, _⟩ := hval
  obtain ⟨fuel, hf⟩ := hd
  obtain ⟨a, b, e, rfl', wa, wb⟩ := open_pt T hf
  obtain ⟨l, rfl⟩ : ∃ l : List Value, cs = l.toArray := ⟨cs.toList, by simp⟩
  have e : l = [.int .i64 a, .int .i64 b] := e
  subst e
  simp only [Prod.mk.injEq] at rfl'
  exact ⟨a, b, rfl, rfl'.1, rfl'.2, wa, wb⟩
theorem shut_point (T : IsPt P tp ti) {a b : Int} (wa : okI a) (wb : okI b) : DataW.Trod enc P w base spare held tp (.agg #[.int .i64 a, .int .i64 b]) (dpt a b) [] := ⟨2, shut_pt T wa wb 0⟩
abbrev vpts (a b c d e f g i : Int) : Value := .agg #[.int .i64 a, .int .i64 b, .int .i64 c, .int .i64 d, .int .i64 e, .int .i64 f, .int .i64 g, .int .i64 i]
abbrev dpts (a b c d e f g i : Int) : DataW H := .agg [dpt a b, dpt c d, dpt e f, dpt g i]
theorem open_pts (T : IsPt P tp ti) (ha : P.underlying ta = some (.array 4 tp)) (hc : P.cellsOf ta = 8) {v : Value} {d : DataW H} {ps : List MemPlace} {r : Reach} {b0 : Nat} (hval : Value.okWide P w r b0 ta v) (hd : DataW.Trod enc P w base spare held ta v d ps) :
    ∃ a b c d' e f g i : Int, v = vpts a b c d' e f g i ∧ d = dpts a b c d' e f g i ∧ ps = [] ∧ (okI a ∧ okI b ∧ okI c ∧ okI d' ∧ okI e ∧ okI f ∧ okI g ∧ okI i) := by
  unfold Value.okWide at hval
  rw [ha] at hval
  obtain ⟨cs, rfl, hsz, _⟩ := hval
  obtain ⟨fuel, hf⟩ := hd
  obtain ⟨xs, m, rfl, hx, hl, hxl, hel⟩ := DataW.trod_array ha hf
  rw [hc] at hl
  obtain ⟨l, rfl⟩ : ∃ l : List Value, cs = l.toArray := ⟨cs.toList, by simp⟩
  have hl : l.length = 8 := hl
  have hel : ∀ (i : Nat), i < 4 → DataW.trod enc P w base spare held m tp ((l.drop (i * P.cellsOf tp)).take (P.cellsOf tp)) = xs[i]? := hel
  rw [T.cp] at hel
  match l, hl, xs, hxl with
  | [c0, c1, c2, c3, c4, c5, c6, c7], _, [y0, y1, y2, y3], _ =>
    obtain ⟨a0, b0, e0, z0, w0, w0'⟩ := open_pt T (hel 0 (by decide))
    obtain ⟨a1, b1, e1, z1, w1, w1'⟩ := open_pt T (hel 1 (by decide))
    obtain ⟨a2, b2, e2, z2, w2, w2'⟩ := open_pt T (hel 2 (by decide))
    obtain ⟨a3, b3, e3, z3, w3, w3'⟩ := open_pt T (hel 3 (by decide))
    simp at e0 e1 e2 e3
    subst z0 z1 z2 z3
    obtain ⟨rfl, rfl⟩ := e0
    obtain ⟨rfl, rfl⟩ := e1
    obtain ⟨rfl, rfl⟩ := e2
    obtain ⟨rfl, rfl⟩ := e3
    have h1 : d = dpts a0 b0 a1 b1 a2 b2 a3 b3 := congrArg Prod.fst hx
    have h2 : ps = [] := congrArg Prod.snd hx
    exact ⟨a0, b0, a1, b1, a2, b2, a3, b3, rfl, h1, h2, w0, w0', w1, w1', w2, w2', w3, w3'⟩
theorem shut_pts (T : IsPt P tp ti) (ha : P.underlying ta = some (.array 4 tp)) (hc : P.cellsOf ta = 8) {a b c d e f g i : Int} (wa : okI a ∧ okI b ∧ okI c ∧ okI d ∧ okI e ∧ okI f ∧ okI g ∧ okI i) : DataW.Trod enc P w base spare held ta (vpts a b c d e f g i) (dpts a b c d e f g i) [] := by
  obtain ⟨w0, w1, w2, w3, w4, w5, w6, w7⟩ := wa
  refine ⟨3, ?_⟩
  show DataW.trod enc P w base spare held 3 ta [.int .i64 a, .int .i64 b, .int .i64 c, .int .i64 d, .int .i64 e, .int .i64 f, .int .i64 g, .int .i64 i] = _
  have s0 : DataW.trod enc P w base spare held 2 tp [.int .i64 a, .int .i64 b] = some (dpt a b, []) := shut_pt T w0 w1 0
  have s1 : DataW.trod enc P w base spare held 2 tp [.int .i64 c, .int .i64 d] = some (dpt c d, []) := shut_pt T w2 w3 0
  have s2 : DataW.trod enc P w base spare held 2 tp [.int .i64 e, .int .i64 f] = some (dpt e f, []) := shut_pt T w4 w5 0
  have s3 : DataW.trod enc P w base spare held 2 tp [.int .i64 g, .int .i64 i] = some (dpt g i, []) := shut_pt T w6 w7 0
  unfold DataW.trod
  rw [ha]
  simp only [hc, T.cp]
  have hr : List.range 4 = [0, 1, 2, 3] := rfl
  rw [hr]
  simp [s0, s1, s2, s3]
end
theorem okI_bd {a : Int} (h : okI a) : -9223372036854775808 ≤ a ∧ a ≤ 9223372036854775807 := by
  have := bounds_i64 h
  omega
theorem isPt : IsPt Try.prog 27 3 := ⟨⟨_, _, Try.underlying27, rfl, rfl, rfl, rfl⟩, Try.underlying3, by kernel_rfl, by kernel_rfl⟩
theorem cells53 : Try.prog.cellsOf 53 = 8 := by kernel_rfl
theorem r0_int {h : PH} {ρ : Ro} {l : List Int} : ∀ (j : Nat) c v, (l.map (fun n => AV.int .i64 n))[j]? = some c → (l.map (fun n => Value.int .i64 n))[j]? = some v → R0 h ρ c v := by
  intro j c v e1 e2
  rw [List.getElem?_map, Option.map_eq_some_iff] at e1 e2
  obtain ⟨n, h1, rfl⟩ := e1
  obtain ⟨n', h2, rfl⟩ := e2
  rw [h1] at h2
  cases h2
  exact .lf (.cl rfl (.int _ _))
theorem r1_ints {h : PH} {ρ : Ro} (l : List Int) : R1 h ρ (.ag (l.map (fun n => AV.int .i64 n))) (.agg (l.map (fun n => Value.int .i64 n)).toArray) :=
  .ag _ _ (by simp) r0_int

end Go.Proofs.Ytllaijapijinoaa

namespace Go.Proofs.Ytllaijapijinoaa
open Go.Cw
set_option linter.unusedVariables false

theorem mn_bd {p q : Int} (hp : Bd 134217728 p) (hq : Bd 134217728 q) : Bd 134217728 (mnE p q) := by unfold mnE; split <;> assumption
theorem mx_bd {p q : Int} (hp : Bd 134217728 p) (hq : Bd 134217728 q) : Bd 134217728 (mxE p q) := by unfold mxE; split <;> assumption
abbrev pts8 (a b c d : Pt) : List AV := [i64 a.x, i64 a.y, i64 b.x, i64 b.y, i64 c.x, i64 c.y, i64 d.x, i64 d.y]
def ix2 : Nat → Int
  | 0 => 0
  | 1 => 2
  | _ => 4
def placesS (a b c d : Pt) (xn xd yn yd : Int) (k : Nat) : St :=
  ⟨[(1, .ptr 0 0), (3, .ptr 1 0), (4, i64 (ix2 k))], [(0, .cells 53 (pts8 a b c d)), (1, .cells 60 (mt1c xn xd yn yd))], 2⟩
set_option maxRecDepth 100000 in
set_option maxHeartbeats 8000000 in
theorem places_walk {a b c d : Pt} {xn xd yn yd : Int} (ra : rt a = true) (rb : rt b = true) (rc : rt c = true) (rd : rt d = true) (g : GoodM (.place xn xd yn yd))
    (hM : Ret Try.prog 24 [] [pt a.x a.y, pt b.x b.y, pt c.x c.y, pt d.x d.y] (mt1 xn xd yn yd) [])
    (x1 : Bet xn xd a.x b.x) (y1 : Bet yn yd a.y b.y) (x2 : Bet xn xd c.x d.x) (y2 : Bet yn yd c.y d.y) :
    Ret Try.prog 9 [] [.ag (pts8 a b c d)] (.bool true) [] := by
  have ka := rt_bd ra
  have kb := rt_bd rb
  have kc := rt_bd rc
  have kd := rt_bd rd
  refine ret_cut [2] Try.func9 rfl rfl rfl ?_
  refine RC.use hM rfl ?_
  refine ⟨⟨[(1, .ptr 0 0), (3, .ptr 1 0)], [(0, .cells 53 (pts8 a b c d)), (1, .cells 60 (mt1c xn xd yn yd))], 2⟩, [(0, 0), (1, 1)], ⟨rfl, rfl, rfl, ⟨rfl, rfl, rfl, rfl, trivial⟩, ⟨rfl, rfl, rfl, rfl, trivial⟩⟩, ?_⟩
  refine ⟨Nat, placesS a b c d xn xd yn yd, fun k => k ≤ 2, fun k => 2 - k, 0, [(0, 0), (1, 1)], Nat.zero_le _, ⟨rfl, rfl, rfl, ⟨rfl, rfl, rfl, rfl, rfl, rfl, trivial⟩, ⟨rfl, rfl, rfl, rfl, trivial⟩⟩, ?_⟩
  intro k hk
  have hk : k ≤ 2 := hk
  have : k = 0 ∨ k = 1 ∨ k = 2 := by omega
  rcases this with rfl | rfl | rfl
  · refine CL.yes (by kernel_rfl) ?_
    refine RC.use (fracOf_ret (mnE a.x b.x) ((mn_bd ka.1 kb.1).i (by decide))) rfl ?_
    refine RC.use (fracCmp_of (good_one (mn_bd ka.1 kb.1)) g.1) rfl ?_
    refine BM.split (fun h => ?_) (fun _ => ?_)
    · exact absurd (h.symm.trans (bet_lo x1)) (by decide)
    refine RC.use (fracOf_ret (mxE a.x b.x) ((mx_bd ka.1 kb.1).i (by decide))) rfl ?_
    refine RC.use (fracCmp_of g.1 (good_one (mx_bd ka.1 kb.1))) rfl ?_
    refine BM.split (fun h => ?_) (fun _ => ?_)
    · exact absurd (h.symm.trans (bet_hi x1)) (by decide)
    refine RC.use (fracOf_ret (mnE a.y b.y) ((mn_bd ka.2 kb.2).i (by decide))) rfl ?_
    refine RC.use (fracCmp_of (good_one (mn_bd ka.2 kb.2)) g.2) rfl ?_
    refine BM.split (fun h => ?_) (fun _ => ?_)
    · exact absurd (h.symm.trans (bet_lo y1)) (by decide)
    refine RC.use (fracOf_ret (mxE a.y b.y) ((mx_bd ka.2 kb.2).i (by decide))) rfl ?_
    refine RC.use (fracCmp_of g.2 (good_one (mx_bd ka.2 kb.2))) rfl ?_
    refine CL.yes (by kernel_rfl) ?_
    refine BM.split (fun h => ?_) (fun _ => ?_)
    · exact absurd (h.symm.trans (bet_hi y1)) (by decide)
    exact ⟨1, [(0, 0), (1, 1)], (by decide : 1 ≤ 2), (by decide : 2 - 1 < 2 - 0), ⟨rfl, rfl, rfl, ⟨rfl, rfl, rfl, rfl, rfl, rfl, trivial⟩, ⟨rfl, rfl, rfl, rfl, trivial⟩⟩⟩
  · refine CL.yes (by kernel_rfl) ?_
    refine RC.use (fracOf_ret (mnE c.x d.x) ((mn_bd kc.1 kd.1).i (by decide))) rfl ?_
    refine RC.use (fracCmp_of (good_one (mn_bd kc.1 kd.1)) g.1) rfl ?_
    refine BM.split (fun h => ?_) (fun _ => ?_)
    · exact absurd (h.symm.trans (bet_lo x2)) (by decide)
    refine RC.use (fracOf_ret (mxE c.x d.x) ((mx_bd kc.1 kd.1).i (by decide))) rfl ?_
    refine RC.use (fracCmp_of g.1 (good_one (mx_bd kc.1 kd.1))) rfl ?_
    refine BM.split (fun h => ?_) (fun _ => ?_)
    · exact absurd (h.symm.trans (bet_hi x2)) (by decide)
    refine RC.use (fracOf_ret (mnE c.y d.y) ((mn_bd kc.2 kd.2).i (by decide))) rfl ?_
    refine RC.use (fracCmp_of (good_one (mn_bd kc.2 kd.2)) g.2) rfl ?_
    refine BM.split (fun h => ?_) (fun _ => ?_)
    · exact absurd (h.symm.trans (bet_lo y2)) (by decide)
    refine RC.use (fracOf_ret (mxE c.y d.y) ((mx_bd kc.2 kd.2).i (by decide))) rfl ?_
    refine RC.use (fracCmp_of g.2 (good_one (mx_bd kc.2 kd.2))) rfl ?_
    refine CL.yes (by kernel_rfl) ?_
    refine BM.split (fun h => ?_) (fun _ => ?_)
    · exact absurd (h.symm.trans (bet_hi y2)) (by decide)
    exact ⟨2, [(0, 0), (1, 1)], (by decide : 2 ≤ 2), (by decide : 2 - 2 < 2 - 1), ⟨rfl, rfl, rfl, ⟨rfl, rfl, rfl, rfl, rfl, rfl, trivial⟩, ⟨rfl, rfl, rfl, rfl, trivial⟩⟩⟩
  · refine RC.use alive_ret rfl ?_
    refine RC.use (fracRight_pos xn xd g.1.1 (g.1.2.1.w (by decide))) rfl ?_
    refine RC.use (fracRight_pos yn yd g.2.1 (g.2.2.1.w (by decide))) rfl ?_
    exact ⟨rfl, rfl, trivial⟩
set_option maxRecDepth 100000 in
set_option maxHeartbeats 8000000 in
theorem places_no {a b c d : Pt} (hM : Ret Try.prog 24 [] [pt a.x a.y, pt b.x b.y, pt c.x c.y, pt d.x d.y] mt0 []) :
    Ret Try.prog 9 [] [.ag (pts8 a b c d)] (.bool true) [] := by
  refine ret_of Try.func9 rfl rfl rfl ?_
  refine RC.use hM rfl ?_
  refine RC.use alive_ret rfl ?_
  exact ⟨rfl, rfl, trivial⟩
set_option maxRecDepth 100000 in
set_option maxHeartbeats 8000000 in
theorem places_along {a b c d : Pt} {p0 p1 q0 q1 : Int} (hM : Ret Try.prog 24 [] [pt a.x a.y, pt b.x b.y, pt c.x c.y, pt d.x d.y] (mt2 p0 p1 q0 q1) []) :
    Ret Try.prog 9 [] [.ag (pts8 a b c d)] (.bool true) [] := by
  refine ret_of Try.func9 rfl rfl rfl ?_
  refine RC.use hM rfl ?_
  refine RC.use alive_ret rfl ?_
  exact ⟨rfl, rfl, trivial⟩
theorem places_ret (a b c d : Pt) : Ret Try.prog 9 [] [.ag (pts8 a b c d)] (.bool true) [] := by
  have hm := meet_ret a b c d
  have hg := meetF_good a b c d
  cases hM : meetF a b c d with
  | no => rw [hM] at hm; exact places_no hm
  | along p q => rw [hM] at hm; exact places_along hm
  | place xn xd yn yd =>
    have hr := meetF_rt (a := a) (b := b) (c := c) (d := d) (by rw [hM]; intro e; cases e)
    have h1 := meet_bet hM
    have h2 := meet_bet ((meetF_sw a b c d).trans hM)
    rw [hM] at hm hg
    exact places_walk hr.1 hr.2.1 hr.2.2.1 hr.2.2.2 hg hm h1.1 h1.2 h2.1 h2.2

end Go.Proofs.Ytllaijapijinoaa

namespace Go.Proofs.Ytllaijapijinoaa
open Go.Cw
set_option linter.unusedVariables false

theorem refRight_ret (p : Pt) : Ret Try.prog 16 [] [pt p.x p.y] (.bool (rt p)) [] := by
  refine ret_of Try.func16 rfl rfl rfl ?_
  refine BM.split (fun h1 => ?_) (fun h1 => ?_)
  · have h1 : decide (p.x ≤ 134217728) = true := h1
    refine BM.split (fun h2 => ?_) (fun h2 => ?_)
    · have h2 : decide (p.y ≤ 134217728) = true := h2
      refine BM.split (fun h3 => ?_) (fun h3 => ?_)
      · have h3 : decide (p.x ≥ -134217728) = true := h3
        exact ⟨eq2 (.bool (decide (p.y ≥ -134217728))) (by simp only [rt, inB, h1, h2, h3, Bool.true_and, Bool.and_true]) rfl, rfl, trivial⟩
      · have h3 : decide (p.x ≥ -134217728) = false := h3
        exact ⟨eq2 (.bool false) (by simp only [rt, inB, h3, Bool.false_and]) rfl, rfl, trivial⟩
    · have h2 : decide (p.y ≤ 134217728) = false := h2
      exact ⟨eq2 (.bool false) (by simp only [rt, inB, h2, Bool.and_false]) rfl, rfl, trivial⟩
  · have h1 : decide (p.x ≤ 134217728) = false := h1
    exact ⟨eq2 (.bool false) (by simp only [rt, inB, h1, Bool.and_false, Bool.false_and]) rfl, rfl, trivial⟩
theorem refRight_of {p : Pt} {t : Bool} (h : rt p = t) : Ret Try.prog 16 [] [pt p.x p.y] (.bool t) [] := by
  subst h; exact refRight_ret p
abbrev ptC (p : Pt) : ABlk := .cells 27 [i64 p.x, i64 p.y]
abbrev mt2c (px py qx qy : Int) : List AV := [i64 2, i64 0, u64 0, i64 0, u64 0, i64 0, u64 0, i64 0, u64 0, i64 px, i64 py, i64 qx, i64 qy]
def selfS (a b c p q : Pt) : St :=
  ⟨[(2, .ptr 0 0), (3, .ptr 1 0), (5, .ptr 2 0), (6, .ptr 3 0)], [(0, ptC a), (1, ptC b), (2, .cells 60 (mt2c p.x p.y q.x q.y)), (3, ptC c)], 4⟩
def selfS2 (a b c p q : Pt) : St :=
  ⟨[(2, .ptr 0 0), (3, .ptr 1 0), (5, .ptr 2 0), (6, .ptr 3 0), (7, .ptr 4 0), (8, .ptr 5 0)], [(0, ptC a), (1, ptC b), (2, .cells 60 (mt2c p.x p.y q.x q.y)), (3, ptC c),
    (4, .cells 60 (mt1c b.x 1 b.y 1)), (5, .cells 60 (mt2c p.x p.y q.x q.y))], 6⟩
theorem ptNe {a b : Pt} (h : a ≠ b) : (a.x == b.x && (a.y == b.y && true)) = false := by rw [ptB]; simpa using h
theorem ptSame (a : Pt) : (a.x == a.x && (a.y == a.y && true)) = true := by simp
theorem ptNe' {a b : Pt} (h : a ≠ b) : (!(a.x == b.x && (a.y == b.y && true))) = true := by rw [ptNe h]; rfl
theorem ptSame' (a : Pt) : (!(a.x == a.x && (a.y == a.y && true))) = false := by rw [ptSame]; rfl
set_option maxRecDepth 100000 in
set_option maxHeartbeats 8000000 in
theorem self_up {a b : Pt} (ra : rt a = true) (rb : rt b = true) (h : a ≠ b) (eP : lo a b = a) (eQ : hi a b = b) :
    Ret Try.prog 10 [] [pt a.x a.y, pt b.x b.y] (.bool true) [] := by
  have h' : b ≠ a := fun e => h e.symm
  have m0 := meet_of a b b a (self_meet ra rb h)
  have e0 := ends_of a b b a (self_ends ra rb h)
  rw [eP, eQ] at m0
  have ka := rt_bd ra
  have kb := rt_bd rb
  have ex : IntKind.wrap .i64 (IntKind.wrap .i64 (2 * b.x) - a.x) = (dbl a b).x := by
    obtain ⟨⟨_, _⟩, _⟩ := ka; obtain ⟨⟨_, _⟩, _⟩ := kb
    rw [IntKind.wrap_i64, IntKind.wrap_i64]; simp only [dbl]; omega
  have ey : IntKind.wrap .i64 (IntKind.wrap .i64 (2 * b.y) - a.y) = (dbl a b).y := by
    obtain ⟨_, _, _⟩ := ka; obtain ⟨_, _, _⟩ := kb
    rw [IntKind.wrap_i64, IntKind.wrap_i64]; simp only [dbl]; omega
  refine ret_cut [4, 1, 1, 1] Try.func10 rfl rfl rfl ?_
  refine RC.use (refRight_of ra) rfl ?_
  refine RC.use (refRight_of rb) rfl ?_
  refine BM.split (fun k => ?_) (fun _ => ?_)
  · exact absurd (k.symm.trans (ptNe h)) (by decide)
  refine RC.use m0 rfl ?_
  refine ⟨selfS a b (dbl a b) a b, [(0, 0), (1, 1), (2, 2), (3, 3)], ⟨rfl, rfl, rfl, ⟨rfl, rfl, rfl, rfl, rfl, rfl, rfl, rfl, trivial⟩, ⟨rfl, rfl, rfl, rfl, rfl, rfl, (show ABlk.cells 27 [i64 (IntKind.wrap .i64 (IntKind.wrap .i64 (2 * b.x) - a.x)), i64 (IntKind.wrap .i64 (IntKind.wrap .i64 (2 * b.y) - a.y))] = ptC (dbl a b) by rw [ex, ey]), rfl, trivial⟩⟩, ?_⟩
  refine RC.use e0 rfl ?_
  refine BM.split (fun k => ?_) (fun _ => ?_)
  · exact absurd (k.symm.trans (ptNe h)) (by decide)
  refine BM.split (fun k => ?_) (fun _ => ?_)
  · exact absurd (k.symm.trans (ptSame' a)) (by decide)
  refine BM.split (fun _ => ?_) (fun k => ?_)
  rotate_left
  · exact absurd ((ptNe' h').symm.trans k) (by decide)
  refine BM.split (fun k => ?_) (fun _ => ?_)
  · exact absurd (k.symm.trans (ptSame' b)) (by decide)
  refine ⟨selfS a b (dbl a b) a b, [(0, 0), (1, 1), (2, 2), (3, 3)], ⟨rfl, rfl, rfl, ⟨rfl, rfl, rfl, rfl, rfl, rfl, rfl, rfl, trivial⟩, ⟨rfl, rfl, rfl, rfl, rfl, rfl, rfl, rfl, trivial⟩⟩, ?_⟩
  refine RC.use (refRight_ret (dbl a b)) rfl ?_
  refine BM.split (fun k => ?_) (fun k => ?_)
  · refine RC.use alive_ret rfl ?_
    exact ⟨rfl, rfl, trivial⟩
  have k : (!rt (dbl a b)) = false := k
  have rc : rt (dbl a b) = true := by simpa using k
  have m1 := meet_of a b b (dbl a b) (next_meet ra rb rc h)
  have e1 := ends_of a b b (dbl a b) (next_ends ra rb rc h)
  have m2 := meet_of a (dbl a b) b a (half_meet ra rb rc h)
  have e2 := ends_of a (dbl a b) b a (half_ends ra rb rc h)
  rw [eP, eQ] at m2
  have o := one_ret (M := .along a b) trivial
  refine ⟨selfS a b (dbl a b) a b, [(0, 0), (1, 1), (2, 2), (3, 3)], ⟨rfl, rfl, rfl, ⟨rfl, rfl, rfl, rfl, rfl, rfl, rfl, rfl, trivial⟩, ⟨rfl, rfl, rfl, rfl, rfl, rfl, rfl, rfl, trivial⟩⟩, ?_⟩
  refine RC.use m1 rfl ?_
  refine RC.use m2 rfl ?_
  refine CL.yes (by kernel_rfl) ?_
  refine ⟨selfS2 a b (dbl a b) a b, [(0, 0), (1, 1), (2, 2), (3, 3), (4, 4), (5, 5)], ⟨rfl, rfl, rfl, ⟨rfl, rfl, rfl, rfl, rfl, rfl, rfl, rfl, rfl, rfl, rfl, rfl, trivial⟩, ⟨rfl, rfl, rfl, rfl, rfl, rfl, rfl, rfl, rfl, rfl, rfl, rfl, trivial⟩⟩, ?_⟩
  refine RC.use alive_ret rfl ?_
  refine RC.use (fracOf_ret b.x (kb.1.i (by decide))) rfl ?_
  refine RC.use (fracCmp_refl (good_one kb.1)) rfl ?_
  refine RC.use (fracOf_ret b.y (kb.2.i (by decide))) rfl ?_
  refine RC.use (fracCmp_refl (good_one kb.2)) rfl ?_
  refine RC.use e1 rfl ?_
  refine RC.use o rfl ?_
  refine RC.use e2 rfl ?_
  refine CL.yes (by kernel_rfl) ?_
  exact ⟨rfl, rfl, trivial⟩
set_option maxRecDepth 100000 in
set_option maxHeartbeats 8000000 in
theorem self_down {a b : Pt} (ra : rt a = true) (rb : rt b = true) (h : a ≠ b) (eP : lo a b = b) (eQ : hi a b = a) :
    Ret Try.prog 10 [] [pt a.x a.y, pt b.x b.y] (.bool true) [] := by
  have h' : b ≠ a := fun e => h e.symm
  have m0 := meet_of a b b a (self_meet ra rb h)
  have e0 := ends_of a b b a (self_ends ra rb h)
  rw [eP, eQ] at m0
  have ka := rt_bd ra
  have kb := rt_bd rb
  have ex : IntKind.wrap .i64 (IntKind.wrap .i64 (2 * b.x) - a.x) = (dbl a b).x := by
    obtain ⟨⟨_, _⟩, _⟩ := ka; obtain ⟨⟨_, _⟩, _⟩ := kb
    rw [IntKind.wrap_i64, IntKind.wrap_i64]; simp only [dbl]; omega
  have ey : IntKind.wrap .i64 (IntKind.wrap .i64 (2 * b.y) - a.y) = (dbl a b).y := by
    obtain ⟨_, _, _⟩ := ka; obtain ⟨_, _, _⟩ := kb
    rw [IntKind.wrap_i64, IntKind.wrap_i64]; simp only [dbl]; omega
  refine ret_cut [4, 1, 1, 1] Try.func10 rfl rfl rfl ?_
  refine RC.use (refRight_of ra) rfl ?_
  refine RC.use (refRight_of rb) rfl ?_
  refine BM.split (fun k => ?_) (fun _ => ?_)
  · exact absurd (k.symm.trans (ptNe h)) (by decide)
  refine RC.use m0 rfl ?_
  refine ⟨selfS a b (dbl a b) b a, [(0, 0), (1, 1), (2, 2), (3, 3)], ⟨rfl, rfl, rfl, ⟨rfl, rfl, rfl, rfl, rfl, rfl, rfl, rfl, trivial⟩, ⟨rfl, rfl, rfl, rfl, rfl, rfl, (show ABlk.cells 27 [i64 (IntKind.wrap .i64 (IntKind.wrap .i64 (2 * b.x) - a.x)), i64 (IntKind.wrap .i64 (IntKind.wrap .i64 (2 * b.y) - a.y))] = ptC (dbl a b) by rw [ex, ey]), rfl, trivial⟩⟩, ?_⟩
  refine RC.use e0 rfl ?_
  refine BM.split (fun k => ?_) (fun _ => ?_)
  · exact absurd (k.symm.trans (ptNe h')) (by decide)
  refine BM.split (fun _ => ?_) (fun k => ?_)
  rotate_left
  · exact absurd ((ptNe' h').symm.trans k) (by decide)
  refine BM.split (fun k => ?_) (fun _ => ?_)
  · exact absurd (k.symm.trans (ptSame' b)) (by decide)
  refine BM.split (fun k => ?_) (fun _ => ?_)
  · exact absurd (k.symm.trans (ptSame' a)) (by decide)
  refine ⟨selfS a b (dbl a b) b a, [(0, 0), (1, 1), (2, 2), (3, 3)], ⟨rfl, rfl, rfl, ⟨rfl, rfl, rfl, rfl, rfl, rfl, rfl, rfl, trivial⟩, ⟨rfl, rfl, rfl, rfl, rfl, rfl, rfl, rfl, trivial⟩⟩, ?_⟩
  refine RC.use (refRight_ret (dbl a b)) rfl ?_
  refine BM.split (fun k => ?_) (fun k => ?_)
  · refine RC.use alive_ret rfl ?_
    exact ⟨rfl, rfl, trivial⟩
  have k : (!rt (dbl a b)) = false := k
  have rc : rt (dbl a b) = true := by simpa using k
  have m1 := meet_of a b b (dbl a b) (next_meet ra rb rc h)
  have e1 := ends_of a b b (dbl a b) (next_ends ra rb rc h)
  have m2 := meet_of a (dbl a b) b a (half_meet ra rb rc h)
  have e2 := ends_of a (dbl a b) b a (half_ends ra rb rc h)
  rw [eP, eQ] at m2
  have o := one_ret (M := .along b a) trivial
  refine ⟨selfS a b (dbl a b) b a, [(0, 0), (1, 1), (2, 2), (3, 3)], ⟨rfl, rfl, rfl, ⟨rfl, rfl, rfl, rfl, rfl, rfl, rfl, rfl, trivial⟩, ⟨rfl, rfl, rfl, rfl, rfl, rfl, rfl, rfl, trivial⟩⟩, ?_⟩
  refine RC.use m1 rfl ?_
  refine RC.use m2 rfl ?_
  refine CL.yes (by kernel_rfl) ?_
  refine ⟨selfS2 a b (dbl a b) b a, [(0, 0), (1, 1), (2, 2), (3, 3), (4, 4), (5, 5)], ⟨rfl, rfl, rfl, ⟨rfl, rfl, rfl, rfl, rfl, rfl, rfl, rfl, rfl, rfl, rfl, rfl, trivial⟩, ⟨rfl, rfl, rfl, rfl, rfl, rfl, rfl, rfl, rfl, rfl, rfl, rfl, trivial⟩⟩, ?_⟩
  refine RC.use alive_ret rfl ?_
  refine RC.use (fracOf_ret b.x (kb.1.i (by decide))) rfl ?_
  refine RC.use (fracCmp_refl (good_one kb.1)) rfl ?_
  refine RC.use (fracOf_ret b.y (kb.2.i (by decide))) rfl ?_
  refine RC.use (fracCmp_refl (good_one kb.2)) rfl ?_
  refine RC.use e1 rfl ?_
  refine RC.use o rfl ?_
  refine RC.use e2 rfl ?_
  refine CL.yes (by kernel_rfl) ?_
  exact ⟨rfl, rfl, trivial⟩
set_option maxRecDepth 100000 in
theorem self_out {a b : Pt} (h : rt a = false ∨ rt b = false ∨ a = b) : Ret Try.prog 10 [] [pt a.x a.y, pt b.x b.y] (.bool true) [] := by
  cases ra : rt a
  · refine ret_of Try.func10 rfl rfl rfl ?_
    refine RC.use (refRight_of ra) rfl ?_
    refine RC.use alive_ret rfl ?_
    exact ⟨rfl, rfl, trivial⟩
  cases rb : rt b
  · refine ret_of Try.func10 rfl rfl rfl ?_
    refine RC.use (refRight_of ra) rfl ?_
    refine RC.use (refRight_of rb) rfl ?_
    refine RC.use alive_ret rfl ?_
    exact ⟨rfl, rfl, trivial⟩
  have e : a = b := by
    rcases h with h | h | h
    · rw [ra] at h; cases h
    · rw [rb] at h; cases h
    · exact h
  refine ret_of Try.func10 rfl rfl rfl ?_
  refine RC.use (refRight_of ra) rfl ?_
  refine RC.use (refRight_of rb) rfl ?_
  refine BM.split (fun _ => ?_) (fun k => ?_)
  · refine RC.use alive_ret rfl ?_
    exact ⟨rfl, rfl, trivial⟩
  · have k : (a.x == b.x && (a.y == b.y && true)) = false := k
    rw [e, ptSame] at k
    cases k
theorem self_ret (a b : Pt) : Ret Try.prog 10 [] [pt a.x a.y, pt b.x b.y] (.bool true) [] := by
  cases ra : rt a
  · exact self_out (.inl ra)
  cases rb : rt b
  · exact self_out (.inr (.inl rb))
  by_cases h : a = b
  · exact self_out (.inr (.inr h))
  rcases pcmp_cases a b with ⟨q, _⟩ | ⟨q, r⟩ | ⟨q, _⟩
  · exact self_up ra rb h ((lohi a b).1 q).1 ((lohi a b).1 q).2
  · exact absurd ((Pt.eq_iff a b).2 r) h
  · exact self_down ra rb h ((lohi a b).2 q).1 ((lohi a b).2 q).2

end Go.Proofs.Ytllaijapijinoaa

namespace Go.Proofs.Ytllaijapijinoaa
open Go.Cw
set_option linter.unusedVariables false

theorem ref4Right_in {p : Pt} (h : rt p = true) : Ret Try.prog 74 [] [pt p.x p.y] (.bool true) [] := by
  have hb := (rt_iff p).1 h
  refine ret_of Try.func74 rfl rfl rfl ?_
  refine BM.split (fun _ => ?_) (fun h1 => ?_)
  · refine BM.split (fun _ => ?_) (fun h1 => ?_)
    · refine BM.split (fun _ => ?_) (fun h1 => ?_)
      · exact ⟨eq2 (.bool (decide (p.y ≥ -536870912))) (by
          have : p.y ≥ -536870912 := by omega
          simp [this]) rfl, rfl, trivial⟩
      · have h1 : decide (p.x ≥ -536870912) = false := h1
        exact absurd (show p.x ≥ -536870912 by omega) (by simpa using h1)
    · have h1 : decide (p.y ≤ 536870912) = false := h1
      exact absurd (show p.y ≤ 536870912 by omega) (by simpa using h1)
  · have h1 : decide (p.x ≤ 536870912) = false := h1
    exact absurd (show p.x ≤ 536870912 by omega) (by simpa using h1)
def detF (a b : Pt) : Int := a.x * b.y - a.y * b.x
theorem det_bd {a b : Pt} (ha : rt a = true) (hb : rt b = true) : Bd 18014398509481984 (a.x * b.y) ∧ Bd 18014398509481984 (a.y * b.x) := by
  have a1 := rt_bd ha
  have b1 := rt_bd hb
  exact ⟨a1.1.mul b1.2, a1.2.mul b1.1⟩
theorem det_wrap {a b : Pt} (ha : rt a = true) (hb : rt b = true) : IntKind.wrap .i64 (IntKind.wrap .i64 (a.x * b.y) - IntKind.wrap .i64 (a.y * b.x)) = detF a b := by
  have h := det_bd ha hb
  obtain ⟨⟨c1, c2⟩, ⟨c3, c4⟩⟩ := h
  unfold detF
  simp only [IntKind.wrap_i64]
  generalize a.x * b.y = u at *
  generalize a.y * b.x = v at *
  omega
theorem ref4Det_ret {a b : Pt} (ha : rt a = true) (hb : rt b = true) : Ret Try.prog 106 [] [pt a.x a.y, pt b.x b.y] (i64 (detF a b)) [] := by
  refine ret_of Try.func106 rfl rfl rfl ?_
  exact ⟨eq2 (i64 (IntKind.wrap .i64 (IntKind.wrap .i64 (a.x * b.y) - IntKind.wrap .i64 (a.y * b.x)))) (by rw [det_wrap ha hb]) rfl, rfl, trivial⟩
theorem ref4Cross_ret {o a b : Pt} (ho : rt o = true) (ha : rt a = true) (hb : rt b = true) : Ret Try.prog 75 [] [pt o.x o.y, pt a.x a.y, pt b.x b.y] (i64 (crs o a b)) [] := by
  refine ret_of Try.func75 rfl rfl rfl ?_
  refine RC.use (ref4Right_in ho) rfl ?_
  refine RC.use (ref4Right_in ha) rfl ?_
  refine RC.use (ref4Right_in hb) rfl ?_
  refine RC.use (ref4Det_ret ho ha) rfl ?_
  refine RC.use (ref4Det_ret ha hb) rfl ?_
  refine RC.use (ref4Det_ret hb ho) rfl ?_
  refine CL.yes (by kernel_rfl) ?_
  exact ⟨eq2 (i64 (IntKind.wrap .i64 (IntKind.wrap .i64 (detF o a + detF a b) + detF b o))) (by
    have e : crs o a b = detF o a + detF a b + detF b o := by simp only [crs, detF]; grind
    obtain ⟨⟨_, _⟩, ⟨_, _⟩⟩ := det_bd ho ha
    obtain ⟨⟨_, _⟩, ⟨_, _⟩⟩ := det_bd ha hb
    obtain ⟨⟨_, _⟩, ⟨_, _⟩⟩ := det_bd hb ho
    rw [e, IntKind.wrap_i64, IntKind.wrap_i64]
    unfold detF
    congr 1
    omega) rfl, rfl, trivial⟩
def btw (n a b : Int) : Bool := (decide (a ≤ n) && decide (n ≤ b)) || (decide (b ≤ n) && decide (n ≤ a))
theorem ref4Between_ret (n a b : Int) : Ret Try.prog 76 [] [i64 n, i64 a, i64 b] (.bool (btw n a b)) [] := by
  refine ret_of Try.func76 rfl rfl rfl ?_
  refine BM.split (fun h1 => ?_) (fun h1 => ?_)
  · have h1 : decide (a ≤ n) = true := h1
    refine BM.split (fun h2 => ?_) (fun h2 => ?_)
    · have h2 : decide (n ≤ b) = true := h2
      exact ⟨eq2 (.bool true) (by simp only [btw, h1, h2, Bool.and_self, Bool.true_or]) rfl, rfl, trivial⟩
    · have h2 : decide (n ≤ b) = false := h2
      refine BM.split (fun h3 => ?_) (fun h3 => ?_)
      · have h3 : decide (b ≤ n) = true := h3
        exact ⟨eq2 (.bool (decide (n ≤ a))) (by simp only [btw, h1, h2, h3, Bool.and_false, Bool.true_and, Bool.false_or]) rfl, rfl, trivial⟩
      · have h3 : decide (b ≤ n) = false := h3
        exact ⟨eq2 (.bool false) (by simp only [btw, h1, h2, h3, Bool.and_false, Bool.false_and, Bool.or_self]) rfl, rfl, trivial⟩
  · have h1 : decide (a ≤ n) = false := h1
    refine BM.split (fun h3 => ?_) (fun h3 => ?_)
    · have h3 : decide (b ≤ n) = true := h3
      exact ⟨eq2 (.bool (decide (n ≤ a))) (by simp only [btw, h1, h3, Bool.false_and, Bool.true_and, Bool.false_or]) rfl, rfl, trivial⟩
    · have h3 : decide (b ≤ n) = false := h3
      exact ⟨eq2 (.bool false) (by simp only [btw, h1, h3, Bool.false_and, Bool.or_self]) rfl, rfl, trivial⟩
theorem on4_eq (p a b : Pt) : onF p a b = ((crs a p b == 0) && (btw p.x a.x b.x && btw p.y a.y b.y)) := by
  have e : crs a p b = -crs a b p := by simp only [crs]; grind
  unfold onF holdsF btw
  rw [e, Bool.eq_iff_iff]
  simp only [Bool.and_eq_true, Bool.or_eq_true, decide_eq_true_eq, beq_iff_eq]
  omega
theorem ref4On_ret {p a b : Pt} (hp : rt p = true) (ha : rt a = true) (hb : rt b = true) : Ret Try.prog 32 [] [pt p.x p.y, pt a.x a.y, pt b.x b.y] (.bool (onF p a b)) [] := by
  refine ret_of Try.func32 rfl rfl rfl ?_
  refine RC.use (ref4Right_in hp) rfl ?_
  refine RC.use (ref4Right_in ha) rfl ?_
  refine RC.use (ref4Right_in hb) rfl ?_
  refine RC.use (ref4Cross_ret ha hp hb) rfl ?_
  refine BM.split (fun h1 => ?_) (fun h1 => ?_)
  · have h1 : (crs a p b == 0) = true := h1
    refine RC.use (ref4Between_ret _ _ _) rfl ?_
    refine BM.split (fun h2 => ?_) (fun h2 => ?_)
    · have h2 : btw p.x a.x b.x = true := h2
      refine RC.use (ref4Between_ret _ _ _) rfl ?_
      exact ⟨eq2 (.bool (btw p.y a.y b.y)) (by rw [on4_eq, h1, h2, Bool.true_and, Bool.true_and]) rfl, rfl, trivial⟩
    · have h2 : btw p.x a.x b.x = false := h2
      exact ⟨eq2 (.bool false) (by rw [on4_eq, h1, h2, Bool.false_and, Bool.true_and]) rfl, rfl, trivial⟩
  · have h1 : (crs a p b == 0) = false := h1
    exact ⟨eq2 (.bool false) (by rw [on4_eq, h1, Bool.false_and]) rfl, rfl, trivial⟩
theorem ref4On_of {p a b : Pt} (hp : rt p = true) (ha : rt a = true) (hb : rt b = true) {t : Bool} (h : onF p a b = t) : Ret Try.prog 32 [] [pt p.x p.y, pt a.x a.y, pt b.x b.y] (.bool t) [] := by
  subst h; exact ref4On_ret hp ha hb
theorem fracCmp_zero {n0 d0 n1 d1 : Int} (h0 : GoodF n0 d0) (h1 : GoodF n1 d1) (e : cmp3 (n0 * d1) (n1 * d0) = 0) : Ret Try.prog 33 [] [fr n0 d0, fr n1 d1] (i64 0) [] := by
  have := fracCmp_of h0 h1
  rw [e] at this
  exact this

end Go.Proofs.Ytllaijapijinoaa

namespace Go.Proofs.Ytllaijapijinoaa
set_option linter.unusedVariables false

/-- By x, of one x by y. -/
def Lx (p q : Pt) : Prop := p.x < q.x ∨ (p.x = q.x ∧ p.y ≤ q.y)
theorem Lx.trans {p q r : Pt} (h : Lx p q) (h' : Lx q r) : Lx p r := by unfold Lx at *; omega
theorem Lx.refl (p : Pt) : Lx p p := .inr ⟨rfl, Int.le_refl _⟩
theorem Lx.antisymm {p q : Pt} (h : Lx p q) (h' : Lx q p) : p = q := by
  rw [Pt.eq_iff]; unfold Lx at *; omega
theorem lx_of_pcmp {p q : Pt} (h : pcmp p q ≠ 1) : Lx p q := by
  have := pcmp_cases p q
  unfold Lx; omega
theorem lx_of_pcmp' {p q : Pt} (h : pcmp p q ≠ -1) : Lx q p := by
  have := pcmp_cases p q
  unfold Lx; omega
theorem pcmp_of_lx {p q : Pt} (h : Lx p q) : pcmp p q ≠ 1 := by
  have := pcmp_cases p q
  unfold Lx at h; omega
theorem lo_lx (a b : Pt) : Lx (lo a b) a ∧ Lx (lo a b) b := by
  have := pcmp_cases a b
  unfold lo
  split
  · exact ⟨by unfold Lx; omega, .refl _⟩
  · exact ⟨.refl _, by unfold Lx; omega⟩
theorem hi_lx (a b : Pt) : Lx a (hi a b) ∧ Lx b (hi a b) := by
  have := pcmp_cases a b
  unfold hi
  split
  · exact ⟨.refl _, by unfold Lx; omega⟩
  · exact ⟨by unfold Lx; omega, .refl _⟩
theorem rowL_lx (a c : Pt) : Lx a (rowL a c) ∧ Lx c (rowL a c) := by
  have := pcmp_cases a c
  unfold rowL
  split
  · exact ⟨by unfold Lx; omega, .refl _⟩
  · exact ⟨.refl _, by unfold Lx; omega⟩
theorem rowH_lx (b d : Pt) : Lx (rowH b d) b ∧ Lx (rowH b d) d := by
  have := pcmp_cases b d
  unfold rowH
  split
  · exact ⟨by unfold Lx; omega, .refl _⟩
  · exact ⟨.refl _, by unfold Lx; omega⟩
theorem rowL_le {a c p : Pt} (h1 : Lx a p) (h2 : Lx c p) : Lx (rowL a c) p := by unfold rowL; split <;> assumption
theorem rowH_le {b d p : Pt} (h1 : Lx p b) (h2 : Lx p d) : Lx p (rowH b d) := by unfold rowH; split <;> assumption

theorem mul_between {u v w z : Int} (hu : 0 < u) (h0 : 0 ≤ v) (h1 : v ≤ u) (e : u * z = w * v) : (0 ≤ w → 0 ≤ z ∧ z ≤ w) ∧ (w ≤ 0 → w ≤ z ∧ z ≤ 0) := by
  constructor
  · intro hw
    have e1 := Int.mul_nonneg hw h0
    have e2 := Int.mul_nonneg hw (show 0 ≤ u - v by omega)
    have z0 : 0 ≤ z := by
      rcases Int.lt_or_le z 0 with q | q
      · have := Int.mul_neg_of_pos_of_neg hu q
        omega
      · exact q
    refine ⟨z0, ?_⟩
    rcases Int.lt_or_le w z with q | q
    · have := Int.mul_lt_mul_of_pos_left q hu
      have e3 : w * (u - v) = u * w - w * v := by grind
      omega
    · exact q
  · intro hw
    have e1 := Int.mul_nonneg (show 0 ≤ -w by omega) h0
    have e2 := Int.mul_nonneg (show 0 ≤ -w by omega) (show 0 ≤ u - v by omega)
    rw [Int.neg_mul] at e1 e2
    have z0 : z ≤ 0 := by
      rcases Int.lt_or_le 0 z with q | q
      · have := Int.mul_pos hu q
        omega
      · exact q
    refine ⟨?_, z0⟩
    rcases Int.lt_or_le z w with q | q
    · have := Int.mul_lt_mul_of_pos_left q hu
      have e3 : w * (u - v) = u * w - w * v := by grind
      omega
    · exact q
/-- In order on a line is in the box. -/
theorem box_of {A B p : Pt} (h1 : Lx A p) (h2 : Lx p B) (hc : crs A B p = 0) : holdsF A B p = true := by
  unfold holdsF
  simp only [Bool.and_eq_true, decide_eq_true_eq]
  unfold Lx at h1 h2
  rcases Int.lt_or_eq_of_le (show A.x ≤ B.x by omega) with hx | hx
  · have e : (B.x - A.x) * (p.y - A.y) = (B.y - A.y) * (p.x - A.x) := by unfold crs at hc; omega
    have := mul_between (show 0 < B.x - A.x by omega) (show 0 ≤ p.x - A.x by omega) (show p.x - A.x ≤ B.x - A.x by omega) e
    omega
  · omega
theorem on_of_lx {a b p : Pt} (hc : crs a b p = 0) (h1 : Lx (lo a b) p) (h2 : Lx p (hi a b)) : onF p a b = true := by
  rcases pcmp_cases a b with ⟨q, _⟩ | ⟨q, r⟩ | ⟨q, _⟩
  · rw [((lohi a b).1 q).1] at h1
    rw [((lohi a b).1 q).2] at h2
    unfold onF
    rw [box_of h1 h2 hc, hc]; rfl
  · have e : a = b := (Pt.eq_iff a b).2 r
    subst e
    have e1 : lo a a = a := by unfold lo; split <;> rfl
    have e2 : hi a a = a := by unfold hi; split <;> rfl
    rw [e1] at h1; rw [e2] at h2
    unfold onF
    rw [box_of h1 h2 hc, hc]; rfl
  · rw [((lohi a b).2 q).1] at h1
    rw [((lohi a b).2 q).2] at h2
    have hc' : crs b a p = 0 := by rw [crs_ab a b, hc]; rfl
    rw [on_ab p b a]
    unfold onF
    rw [box_of h1 h2 hc', hc']; rfl
theorem onF_iff (p a b : Pt) : onF p a b = true ↔ crs a b p = 0 ∧ (min a.x b.x ≤ p.x ∧ p.x ≤ max a.x b.x ∧ min a.y b.y ≤ p.y ∧ p.y ≤ max a.y b.y) := by
  unfold onF holdsF
  simp only [Bool.and_eq_true, decide_eq_true_eq, ge_iff_le]
theorem lx_of_on' {A B p : Pt} (hAB : Lx A B) (h : onF p A B = true) : Lx A p ∧ Lx p B := by
  obtain ⟨hc, hb⟩ := (onF_iff p A B).1 h
  unfold Lx at hAB
  have e : (B.x - A.x) * (p.y - A.y) = (B.y - A.y) * (p.x - A.x) := by unfold crs at hc; omega
  unfold Lx
  rcases Int.lt_or_eq_of_le (show A.x ≤ B.x by omega) with hx | hx
  · constructor
    · rcases Int.lt_or_eq_of_le (show A.x ≤ p.x by omega) with hp | hp
      · omega
      · rw [show p.x - A.x = 0 by omega, Int.mul_zero] at e
        have := Int.mul_eq_zero.1 e
        omega
    · rcases Int.lt_or_eq_of_le (show p.x ≤ B.x by omega) with hp | hp
      · omega
      · rw [show p.x - A.x = B.x - A.x by omega] at e
        have e2 : (B.x - A.x) * (p.y - B.y) = 0 := by grind
        have := Int.mul_eq_zero.1 e2
        omega
  · omega
theorem lx_of_on {a b p : Pt} (h : onF p a b = true) : Lx (lo a b) p ∧ Lx p (hi a b) := by
  rcases pcmp_cases a b with ⟨q, r⟩ | ⟨q, r⟩ | ⟨q, r⟩
  · rw [((lohi a b).1 q).1, ((lohi a b).1 q).2]
    exact lx_of_on' (by unfold Lx; omega) h
  · have e : a = b := (Pt.eq_iff a b).2 r
    subst e
    have e1 : lo a a = a := by unfold lo; split <;> rfl
    have e2 : hi a a = a := by unfold hi; split <;> rfl
    rw [e1, e2]
    exact lx_of_on' (.refl _) h
  · rw [((lohi a b).2 q).1, ((lohi a b).2 q).2]
    rw [on_ab p b a] at h
    exact lx_of_on' (by unfold Lx; omega) h
/-- Three points on a line of two are on a line. -/
theorem col3 {c d p q r : Pt} (hcd : c ≠ d) (hp : crs c d p = 0) (hq : crs c d q = 0) (hr : crs c d r = 0) : crs p q r = 0 := by
  have e1 : (d.x - c.x) * crs p q r = 0 := by
    have : (d.x - c.x) * crs p q r = (q.x - p.x) * crs c d r - (r.x - p.x) * crs c d q + (r.x - q.x) * crs c d p := by simp only [crs]; grind
    rw [this, hp, hq, hr]; omega
  have e2 : (d.y - c.y) * crs p q r = 0 := by
    have : (d.y - c.y) * crs p q r = (q.y - p.y) * crs c d r - (r.y - p.y) * crs c d q + (r.y - q.y) * crs c d p := by simp only [crs]; grind
    rw [this, hp, hq, hr]; omega
  rcases Int.mul_eq_zero.1 e1 with h | h
  · rcases Int.mul_eq_zero.1 e2 with h' | h'
    · exact absurd ((Pt.eq_iff c d).2 ⟨by omega, by omega⟩) hcd
    · exact h'
  · exact h
theorem rowL_or (a c : Pt) : rowL a c = a ∨ rowL a c = c := by unfold rowL; split <;> simp
theorem rowH_or (b d : Pt) : rowH b d = b ∨ rowH b d = d := by unfold rowH; split <;> simp

/-! ### An end on the other segment -/
/-- What it means that a point is in a meeting. -/
def InM (p : Pt) : MT → Prop
  | .no => False
  | .place xn xd yn yd => cmp3 (xn * 1) (p.x * xd) = 0 ∧ cmp3 (yn * 1) (p.y * yd) = 0
  | .along u v => onF p u v = true
theorem at_in (p : Pt) : InM p (atF p) := ⟨cmp3_eq (by omega), cmp3_eq (by omega)⟩
theorem row_in {a b c d : Pt} (hab : a ≠ b) (hcd : c ≠ d) (ha : crs c d a = 0) (hb : crs c d b = 0) (h : onF a c d = true) : InM a (rowF a b c d) := by
  have k := lx_of_on h
  have h1 : Lx (rowL (lo a b) (lo c d)) a := rowL_le (lo_lx a b).1 k.1
  have h2 : Lx a (rowH (hi a b) (hi c d)) := rowH_le (hi_lx a b).1 k.2
  have hL : crs c d (rowL (lo a b) (lo c d)) = 0 := by
    rcases rowL_or (lo a b) (lo c d) with e | e <;> rw [e]
    · rcases lo_or a b with e | e <;> rw [e] <;> assumption
    · rcases lo_or c d with e | e <;> rw [e]
      · exact crs_aba c d
      · exact crs_abb c d
  have hH : crs c d (rowH (hi a b) (hi c d)) = 0 := by
    rcases rowH_or (hi a b) (hi c d) with e | e <;> rw [e]
    · rcases hi_or a b with e | e <;> rw [e] <;> assumption
    · rcases hi_or c d with e | e <;> rw [e]
      · exact crs_aba c d
      · exact crs_abb c d
  unfold rowF
  generalize rowL (lo a b) (lo c d) = L at *
  generalize rowH (hi a b) (hi c d) = U at *
  unfold rowG
  split
  · rename_i hz
    have e := (pcmp_zero L U).1 hz
    subst e
    have e := Lx.antisymm h1 h2
    rw [e]
    exact at_in _
  · split
    · rename_i hz
      exact absurd hz (pcmp_of_lx (h1.trans h2))
    · show onF a L U = true
      have hc : crs L U a = 0 := col3 hcd hL hH ha
      unfold onF
      rw [box_of h1 h2 hc, hc]; rfl
theorem between_cross {u v B C : Int} (hB : B ≠ 0) (hu : u ≠ 0) (hv : (0 ≤ v ∧ v ≤ u) ∨ (u ≤ v ∧ v ≤ 0)) (e : u * C = v * B) : (0 ≤ C ∧ C ≤ B) ∨ (B ≤ C ∧ C ≤ 0) := by
  rcases Int.lt_or_gt_of_ne hu with q | q
  · have := mul_between (u := -u) (v := -v) (w := B) (z := C) (by omega) (by omega) (by omega) (by grind)
    rcases Int.lt_or_gt_of_ne hB with r | r
    · exact .inr (this.2 (by omega))
    · exact .inl (this.1 (by omega))
  · have := mul_between (u := u) (v := v) (w := B) (z := C) (by omega) (by omega) (by omega) (by grind)
    rcases Int.lt_or_gt_of_ne hB with r | r
    · exact .inr (this.2 (by omega))
    · exact .inl (this.1 (by omega))
theorem on_in {a b c d : Pt} (ra : rt a = true) (rb : rt b = true) (rc : rt c = true) (rd : rt d = true) (h : onF a c d = true) : InM a (meetF a b c d) := by
  obtain ⟨hA, hbox⟩ := (onF_iff a c d).1 h
  cases hn : crs c d a != crs c d b
  · rw [meetF_par ra rb rc rd hn]
    have hB : crs c d b = 0 := by
      have : crs c d a = crs c d b := by simpa using hn
      omega
    unfold parG
    by_cases hab : a = b
    · rw [if_pos ⟨hab, h⟩]; exact at_in a
    · rw [if_neg (by simp [hab]), if_neg (by simp [hab, hA])]
      by_cases hcd : c = d
      · subst hcd
        have e : a = c := (Pt.eq_iff a c).2 ⟨by omega, by omega⟩
        subst e
        have : onF a a b = true := (onF_iff a a b).2 ⟨crs_aba a b, by omega, by omega, by omega, by omega⟩
        rw [if_pos ⟨rfl, this⟩]; exact at_in a
      · have hC : crs a b c = 0 := col3 hcd hA hB (crs_aba c d)
        rw [if_neg (by simp [hcd]), if_neg (by simp [hcd, hC])]
        exact row_in hab hcd hA hB h
  · rw [meetF_lines ra rb rc rd hn]
    have hB : crs c d b ≠ 0 := by
      have : crs c d a ≠ crs c d b := by simpa using hn
      omega
    have hcd : c ≠ d := fun e => hB (by rw [e]; exact crs_aab d b)
    have e1 : (d.x - c.x) * crs a b c = (a.x - c.x) * crs c d b := by
      have : (d.x - c.x) * crs a b c = (a.x - c.x) * crs c d b - (b.x - c.x) * crs c d a := by simp only [crs]; grind
      rw [this, hA]; omega
    have e2 : (d.y - c.y) * crs a b c = (a.y - c.y) * crs c d b := by
      have : (d.y - c.y) * crs a b c = (a.y - c.y) * crs c d b - (b.y - c.y) * crs c d a := by simp only [crs]; grind
      rw [this, hA]; omega
    have hbt : (0 ≤ crs a b c ∧ crs a b c ≤ crs c d b) ∨ (crs c d b ≤ crs a b c ∧ crs a b c ≤ 0) := by
      by_cases hx : d.x - c.x = 0
      · have hy : d.y - c.y ≠ 0 := fun hy => hcd ((Pt.eq_iff c d).2 ⟨by omega, by omega⟩)
        exact between_cross hB hy (by omega) e2
      · exact between_cross hB hx (by omega) e1
    have w1 : within (crs c d a) (crs c d a - crs c d b) = true := by
      unfold within
      split <;> simp only [Bool.and_eq_true, decide_eq_true_eq] <;> omega
    have w2 : within (-crs a b c) (crs c d a - crs c d b) = true := by
      unfold within
      split <;> simp only [Bool.and_eq_true, decide_eq_true_eq] <;> omega
    unfold linesF
    rw [w1, w2]
    simp only [Bool.and_self, if_true]
    have hp : ∀ x y : Int, partN x y (crs c d a) (crs c d a - crs c d b) * 1 = x * nrmD (crs c d a - crs c d b) := fun x y => by
      rw [hA]
      unfold partN nrmN nrmD
      split <;> grind
    exact ⟨cmp3_eq (hp _ _), cmp3_eq (hp _ _)⟩

/-! ### A common part -/
theorem row_along {a b c d : Pt} (hab : a ≠ b) (hcd : c ≠ d) (ha : crs c d a = 0) (hb : crs c d b = 0) {u v : Pt} (e : rowF a b c d = .along u v) :
    (onF u a b = true ∧ onF u c d = true ∧ onF v a b = true ∧ onF v c d = true) ∧ (Lx u v ∧ u ≠ v) ∧ (u = a ∨ u = b ∨ u = c ∨ u = d) ∧ (v = a ∨ v = b ∨ v = c ∨ v = d) := by
  have hL : crs c d (rowL (lo a b) (lo c d)) = 0 := by
    rcases rowL_or (lo a b) (lo c d) with e | e <;> rw [e]
    · rcases lo_or a b with e | e <;> rw [e] <;> assumption
    · rcases lo_or c d with e | e <;> rw [e]
      · exact crs_aba c d
      · exact crs_abb c d
  have hH : crs c d (rowH (hi a b) (hi c d)) = 0 := by
    rcases rowH_or (hi a b) (hi c d) with e | e <;> rw [e]
    · rcases hi_or a b with e | e <;> rw [e] <;> assumption
    · rcases hi_or c d with e | e <;> rw [e]
      · exact crs_aba c d
      · exact crs_abb c d
  have oL : rowL (lo a b) (lo c d) = a ∨ rowL (lo a b) (lo c d) = b ∨ rowL (lo a b) (lo c d) = c ∨ rowL (lo a b) (lo c d) = d := by
    rcases rowL_or (lo a b) (lo c d) with e | e <;> rw [e]
    · rcases lo_or a b with e | e <;> simp [e]
    · rcases lo_or c d with e | e <;> simp [e]
  have oH : rowH (hi a b) (hi c d) = a ∨ rowH (hi a b) (hi c d) = b ∨ rowH (hi a b) (hi c d) = c ∨ rowH (hi a b) (hi c d) = d := by
    rcases rowH_or (hi a b) (hi c d) with e | e <;> rw [e]
    · rcases hi_or a b with e | e <;> simp [e]
    · rcases hi_or c d with e | e <;> simp [e]
  have l1 := rowL_lx (lo a b) (lo c d)
  have l2 := rowH_lx (hi a b) (hi c d)
  unfold rowF at e
  generalize rowL (lo a b) (lo c d) = L at *
  generalize rowH (hi a b) (hi c d) = U at *
  unfold rowG at e
  split at e
  · cases e
  split at e
  · cases e
  rename_i h0 h1
  cases e
  have hLU := lx_of_pcmp h1
  have ca : ∀ p, crs c d p = 0 → crs a b p = 0 := fun p hp => col3 hcd ha hb hp
  exact ⟨⟨on_of_lx (ca _ hL) l1.1 (hLU.trans l2.1), on_of_lx hL l1.2 (hLU.trans l2.2), on_of_lx (ca _ hH) (l1.1.trans hLU) l2.1, on_of_lx hH (l1.2.trans hLU) l2.2⟩,
    ⟨hLU, fun e => h0 ((pcmp_zero _ _).2 e)⟩, oL, oH⟩
theorem meet_along {a b c d u v : Pt} (e : meetF a b c d = .along u v) :
    (onF u a b = true ∧ onF u c d = true ∧ onF v a b = true ∧ onF v c d = true) ∧ (Lx u v ∧ u ≠ v) ∧ (u = a ∨ u = b ∨ u = c ∨ u = d) ∧ (v = a ∨ v = b ∨ v = c ∨ v = d) := by
  obtain ⟨ra, rb, rc, rd⟩ := meetF_rt (by rw [e]; intro q; cases q)
  cases h : crs c d a != crs c d b
  · rw [meetF_par ra rb rc rd h] at e
    have hAB : crs c d a = crs c d b := by simpa using h
    unfold parG at e
    split at e
    · cases e
    split at e
    · cases e
    split at e
    · cases e
    split at e
    · cases e
    rename_i h1 h2 h3 h4
    have hA : crs c d a = 0 := by
      apply Classical.byContradiction
      intro q; exact h2 (Or.inr q)
    exact row_along (fun q => h2 (Or.inl q)) (fun q => h4 (Or.inl q)) hA (by omega) e
  · rw [meetF_lines ra rb rc rd h] at e
    unfold linesF at e
    split at e <;> cases e

end Go.Proofs.Ytllaijapijinoaa

namespace Go.Proofs.Ytllaijapijinoaa
open Go.Cw
set_option linter.unusedVariables false

def isEnd (u v p : Pt) : Int := if p = u ∨ p = v then 1 else 0
/-- How many of the first ends are the part's. -/
def cntE (u v a b c d : Pt) : Nat → Int
  | 0 => 0
  | 1 => isEnd u v a
  | 2 => isEnd u v a + isEnd u v b
  | 3 => isEnd u v a + isEnd u v b + isEnd u v c
  | _ => isEnd u v a + isEnd u v b + isEnd u v c + isEnd u v d
theorem isEnd_01 (u v p : Pt) : 0 ≤ isEnd u v p ∧ isEnd u v p ≤ 1 := by unfold isEnd; split <;> omega
theorem isEnd_p {u v p : Pt} (h : (p.x == u.x && (p.y == u.y && true)) = true) : isEnd u v p = 1 := by
  rw [ptB] at h
  unfold isEnd
  rw [if_pos (Or.inl (by simpa using h))]
theorem isEnd_q {u v p : Pt} (h : (p.x == v.x && (p.y == v.y && true)) = true) : isEnd u v p = 1 := by
  rw [ptB] at h
  unfold isEnd
  rw [if_pos (Or.inr (by simpa using h))]
theorem isEnd_n {u v p : Pt} (h : (p.x == u.x && (p.y == u.y && true)) = false) (h' : (p.x == v.x && (p.y == v.y && true)) = false) : isEnd u v p = 0 := by
  rw [ptB] at h h'
  unfold isEnd
  rw [if_neg (by simp at h h'; simp [h, h'])]
theorem cnt_two {u v a b c d : Pt} (hne : u ≠ v) (hu : u = a ∨ u = b ∨ u = c ∨ u = d) (hv : v = a ∨ v = b ∨ v = c ∨ v = d) : 2 ≤ cntE u v a b c d 4 := by
  have ea := isEnd_01 u v a
  have eb := isEnd_01 u v b
  have ec := isEnd_01 u v c
  have ed := isEnd_01 u v d
  have eu : isEnd u v u = 1 := by unfold isEnd; rw [if_pos (Or.inl rfl)]
  have ev : isEnd u v v = 1 := by unfold isEnd; rw [if_pos (Or.inr rfl)]
  show 2 ≤ isEnd u v a + isEnd u v b + isEnd u v c + isEnd u v d
  rcases hu with hu | hu | hu | hu <;> rcases hv with hv | hv | hv | hv <;> first
    | exact absurd (hu.trans hv.symm) hne
    | (rw [← hu, ← hv, eu, ev] at *; omega)
    | (rw [← hu, ← hv] at *; rw [eu, ev] at *; omega)
    | (have := eu; have := ev; rw [hu] at eu; rw [hv] at ev; omega)
def alongS0 (a b c d u v : Pt) : St := ⟨[(1, .ptr 0 0), (3, .ptr 1 0)], [(0, .cells 53 (pts8 a b c d)), (1, .cells 60 (mt2c u.x u.y v.x v.y))], 2⟩
def alongS1 (a b c d u v : Pt) (n : Int) : St := ⟨[(1, .ptr 0 0), (3, .ptr 1 0), (4, i64 n)], [(0, .cells 53 (pts8 a b c d)), (1, .cells 60 (mt2c u.x u.y v.x v.y))], 2⟩
def alongS2 (a b c d u v : Pt) (n : Int) : St := ⟨[(1, .ptr 0 0), (3, .ptr 1 0), (4, i64 n), (7, .bool true)], [(0, .cells 53 (pts8 a b c d)), (1, .cells 60 (mt2c u.x u.y v.x v.y))], 2⟩
def alongS (a b c d u v : Pt) (k : Nat) : St := ⟨[(1, .ptr 0 0), (3, .ptr 1 0), (4, i64 (cntE u v a b c d k)), (21, .ag (pts8 a b c d)), (22, i64 k)], [(0, .cells 53 (pts8 a b c d)), (1, .cells 60 (mt2c u.x u.y v.x v.y))], 2⟩
set_option maxRecDepth 100000 in
set_option maxHeartbeats 16000000 in
theorem along_walk {a b c d u v : Pt} (ra : rt a = true) (rb : rt b = true) (rc : rt c = true) (rd : rt d = true) (ru : rt u = true) (rv : rt v = true)
    (hM : Ret Try.prog 24 [] [pt a.x a.y, pt b.x b.y, pt c.x c.y, pt d.x d.y] (mt2 u.x u.y v.x v.y) [])
    (hon : onF u a b = true ∧ onF u c d = true ∧ onF v a b = true ∧ onF v c d = true) (hlt : Lx u v ∧ u ≠ v) (h2 : 2 ≤ cntE u v a b c d 4) :
    Ret Try.prog 8 [] [.ag (pts8 a b c d)] (.bool true) [] := by
  have ea := isEnd_01 u v a
  have eb := isEnd_01 u v b
  have ec := isEnd_01 u v c
  have ed := isEnd_01 u v d
  refine ret_cut [2, 2, 1, 1] Try.func8 rfl rfl rfl ?_
  refine RC.use hM rfl ?_
  refine ⟨alongS0 a b c d u v, [(0, 0), (1, 1)], ⟨rfl, rfl, rfl, ⟨rfl, rfl, rfl, rfl, trivial⟩, ⟨rfl, rfl, rfl, rfl, trivial⟩⟩, ?_⟩
  refine ⟨alongS1 a b c d u v 0, [(0, 0), (1, 1)], ⟨rfl, rfl, rfl, ⟨rfl, rfl, rfl, rfl, rfl, rfl, trivial⟩, ⟨rfl, rfl, rfl, rfl, trivial⟩⟩, ?_⟩
  refine ⟨Nat, alongS a b c d u v, fun k => k ≤ 4, fun k => 4 - k, 0, [(0, 0), (1, 1)], Nat.zero_le _, ⟨rfl, rfl, rfl, ⟨rfl, rfl, rfl, rfl, rfl, rfl, rfl, rfl, rfl, rfl, trivial⟩, ⟨rfl, rfl, rfl, rfl, trivial⟩⟩, ?_⟩
  intro k hk
  have hk : k ≤ 4 := hk
  have : k = 0 ∨ k = 1 ∨ k = 2 ∨ k = 3 ∨ k = 4 := by omega
  rcases this with rfl | rfl | rfl | rfl | rfl
  · refine BM.split (fun k1 => ?_) (fun k1 => ?_)
    · have k2 := isEnd_p (v := v) k1
      exact ⟨1, [(0, 0), (1, 1)], (by decide : 1 ≤ 4), (by decide : 4 - 1 < 4 - 0), ⟨rfl, rfl, rfl, ⟨rfl, rfl, rfl, rfl, (show i64 (IntKind.wrap .i64 (cntE u v a b c d 0 + 1)) = i64 (cntE u v a b c d 1) by congr 1; rw [IntKind.wrap_i64]; simp only [cntE]; omega), rfl, rfl, rfl, rfl, rfl, trivial⟩, ⟨rfl, rfl, rfl, rfl, trivial⟩⟩⟩
    · refine BM.split (fun k3 => ?_) (fun k3 => ?_)
      · have k2 := isEnd_q (u := u) k3
        exact ⟨1, [(0, 0), (1, 1)], (by decide : 1 ≤ 4), (by decide : 4 - 1 < 4 - 0), ⟨rfl, rfl, rfl, ⟨rfl, rfl, rfl, rfl, (show i64 (IntKind.wrap .i64 (cntE u v a b c d 0 + 1)) = i64 (cntE u v a b c d 1) by congr 1; rw [IntKind.wrap_i64]; simp only [cntE]; omega), rfl, rfl, rfl, rfl, rfl, trivial⟩, ⟨rfl, rfl, rfl, rfl, trivial⟩⟩⟩
      · have k2 := isEnd_n k1 k3
        exact ⟨1, [(0, 0), (1, 1)], (by decide : 1 ≤ 4), (by decide : 4 - 1 < 4 - 0), ⟨rfl, rfl, rfl, ⟨rfl, rfl, rfl, rfl, (show i64 (cntE u v a b c d 0) = i64 (cntE u v a b c d 1) by congr 1; simp only [cntE]; omega), rfl, rfl, rfl, rfl, rfl, trivial⟩, ⟨rfl, rfl, rfl, rfl, trivial⟩⟩⟩
  · refine BM.split (fun k1 => ?_) (fun k1 => ?_)
    · have k2 := isEnd_p (v := v) k1
      exact ⟨2, [(0, 0), (1, 1)], (by decide : 2 ≤ 4), (by decide : 4 - 2 < 4 - 1), ⟨rfl, rfl, rfl, ⟨rfl, rfl, rfl, rfl, (show i64 (IntKind.wrap .i64 (cntE u v a b c d 1 + 1)) = i64 (cntE u v a b c d 2) by congr 1; rw [IntKind.wrap_i64]; simp only [cntE]; omega), rfl, rfl, rfl, rfl, rfl, trivial⟩, ⟨rfl, rfl, rfl, rfl, trivial⟩⟩⟩
    · refine BM.split (fun k3 => ?_) (fun k3 => ?_)
      · have k2 := isEnd_q (u := u) k3
        exact ⟨2, [(0, 0), (1, 1)], (by decide : 2 ≤ 4), (by decide : 4 - 2 < 4 - 1), ⟨rfl, rfl, rfl, ⟨rfl, rfl, rfl, rfl, (show i64 (IntKind.wrap .i64 (cntE u v a b c d 1 + 1)) = i64 (cntE u v a b c d 2) by congr 1; rw [IntKind.wrap_i64]; simp only [cntE]; omega), rfl, rfl, rfl, rfl, rfl, trivial⟩, ⟨rfl, rfl, rfl, rfl, trivial⟩⟩⟩
      · have k2 := isEnd_n k1 k3
        exact ⟨2, [(0, 0), (1, 1)], (by decide : 2 ≤ 4), (by decide : 4 - 2 < 4 - 1), ⟨rfl, rfl, rfl, ⟨rfl, rfl, rfl, rfl, (show i64 (cntE u v a b c d 1) = i64 (cntE u v a b c d 2) by congr 1; simp only [cntE]; omega), rfl, rfl, rfl, rfl, rfl, trivial⟩, ⟨rfl, rfl, rfl, rfl, trivial⟩⟩⟩
  · refine BM.split (fun k1 => ?_) (fun k1 => ?_)
    · have k2 := isEnd_p (v := v) k1
      exact ⟨3, [(0, 0), (1, 1)], (by decide : 3 ≤ 4), (by decide : 4 - 3 < 4 - 2), ⟨rfl, rfl, rfl, ⟨rfl, rfl, rfl, rfl, (show i64 (IntKind.wrap .i64 (cntE u v a b c d 2 + 1)) = i64 (cntE u v a b c d 3) by congr 1; rw [IntKind.wrap_i64]; simp only [cntE]; omega), rfl, rfl, rfl, rfl, rfl, trivial⟩, ⟨rfl, rfl, rfl, rfl, trivial⟩⟩⟩
    · refine BM.split (fun k3 => ?_) (fun k3 => ?_)
      · have k2 := isEnd_q (u := u) k3
        exact ⟨3, [(0, 0), (1, 1)], (by decide : 3 ≤ 4), (by decide : 4 - 3 < 4 - 2), ⟨rfl, rfl, rfl, ⟨rfl, rfl, rfl, rfl, (show i64 (IntKind.wrap .i64 (cntE u v a b c d 2 + 1)) = i64 (cntE u v a b c d 3) by congr 1; rw [IntKind.wrap_i64]; simp only [cntE]; omega), rfl, rfl, rfl, rfl, rfl, trivial⟩, ⟨rfl, rfl, rfl, rfl, trivial⟩⟩⟩
      · have k2 := isEnd_n k1 k3
        exact ⟨3, [(0, 0), (1, 1)], (by decide : 3 ≤ 4), (by decide : 4 - 3 < 4 - 2), ⟨rfl, rfl, rfl, ⟨rfl, rfl, rfl, rfl, (show i64 (cntE u v a b c d 2) = i64 (cntE u v a b c d 3) by congr 1; simp only [cntE]; omega), rfl, rfl, rfl, rfl, rfl, trivial⟩, ⟨rfl, rfl, rfl, rfl, trivial⟩⟩⟩
  · refine BM.split (fun k1 => ?_) (fun k1 => ?_)
    · have k2 := isEnd_p (v := v) k1
      exact ⟨4, [(0, 0), (1, 1)], (by decide : 4 ≤ 4), (by decide : 4 - 4 < 4 - 3), ⟨rfl, rfl, rfl, ⟨rfl, rfl, rfl, rfl, (show i64 (IntKind.wrap .i64 (cntE u v a b c d 3 + 1)) = i64 (cntE u v a b c d 4) by congr 1; rw [IntKind.wrap_i64]; simp only [cntE]; omega), rfl, rfl, rfl, rfl, rfl, trivial⟩, ⟨rfl, rfl, rfl, rfl, trivial⟩⟩⟩
    · refine BM.split (fun k3 => ?_) (fun k3 => ?_)
      · have k2 := isEnd_q (u := u) k3
        exact ⟨4, [(0, 0), (1, 1)], (by decide : 4 ≤ 4), (by decide : 4 - 4 < 4 - 3), ⟨rfl, rfl, rfl, ⟨rfl, rfl, rfl, rfl, (show i64 (IntKind.wrap .i64 (cntE u v a b c d 3 + 1)) = i64 (cntE u v a b c d 4) by congr 1; rw [IntKind.wrap_i64]; simp only [cntE]; omega), rfl, rfl, rfl, rfl, rfl, trivial⟩, ⟨rfl, rfl, rfl, rfl, trivial⟩⟩⟩
      · have k2 := isEnd_n k1 k3
        exact ⟨4, [(0, 0), (1, 1)], (by decide : 4 ≤ 4), (by decide : 4 - 4 < 4 - 3), ⟨rfl, rfl, rfl, ⟨rfl, rfl, rfl, rfl, (show i64 (cntE u v a b c d 3) = i64 (cntE u v a b c d 4) by congr 1; simp only [cntE]; omega), rfl, rfl, rfl, rfl, rfl, trivial⟩, ⟨rfl, rfl, rfl, rfl, trivial⟩⟩⟩
  · refine ⟨alongS1 a b c d u v (cntE u v a b c d 4), [(0, 0), (1, 1)], ⟨rfl, rfl, rfl, ⟨rfl, rfl, rfl, rfl, rfl, rfl, trivial⟩, ⟨rfl, rfl, rfl, rfl, trivial⟩⟩, ?_⟩
    refine RC.use (ref4On_of ru ra rb hon.1) rfl ?_
    refine RC.use (ref4On_of ru rc rd hon.2.1) rfl ?_
    refine RC.use (ref4On_of rv ra rb hon.2.2.1) rfl ?_
    refine RC.use (ref4On_of rv rc rd hon.2.2.2) rfl ?_
    refine ⟨alongS2 a b c d u v (cntE u v a b c d 4), [(0, 0), (1, 1)], ⟨rfl, rfl, rfl, ⟨rfl, rfl, rfl, rfl, rfl, rfl, rfl, rfl, trivial⟩, ⟨rfl, rfl, rfl, rfl, trivial⟩⟩, ?_⟩
    refine RC.use alive_ret rfl ?_
    refine BM.split (fun _ => ?_) (fun h => ?_)
    rotate_left
    · exact absurd ((show decide (cntE u v a b c d 4 ≥ 2) = true by simpa using h2).symm.trans h) (by decide)
    refine BM.split (fun _ => ?_) (fun k1 => ?_)
    · exact ⟨rfl, rfl, trivial⟩
    · have k1 : decide (u.x < v.x) = false := k1
      have k2 : u.x = v.x ∧ u.y < v.y := by
        have k1 : ¬ u.x < v.x := by simpa using k1
        have h3 := hlt.1
        have h4 : u.y ≠ v.y := fun e => hlt.2 ((Pt.eq_iff u v).2 ⟨by unfold Lx at h3; omega, e⟩)
        unfold Lx at h3
        omega
      refine BM.split (fun _ => ?_) (fun h => ?_)
      · exact ⟨eq2 (.bool (decide (u.y < v.y))) (by simp [k2.2]) rfl, rfl, trivial⟩
      · have h : (u.x == v.x) = false := h
        rw [k2.1] at h
        simp at h
set_option maxRecDepth 100000 in
set_option maxHeartbeats 8000000 in
theorem along_no {a b c d : Pt} (hM : Ret Try.prog 24 [] [pt a.x a.y, pt b.x b.y, pt c.x c.y, pt d.x d.y] mt0 []) :
    Ret Try.prog 8 [] [.ag (pts8 a b c d)] (.bool true) [] := by
  refine ret_of Try.func8 rfl rfl rfl ?_
  refine RC.use hM rfl ?_
  refine RC.use alive_ret rfl ?_
  exact ⟨rfl, rfl, trivial⟩
set_option maxRecDepth 100000 in
set_option maxHeartbeats 8000000 in
theorem along_place {a b c d : Pt} {xn xd yn yd : Int} (hM : Ret Try.prog 24 [] [pt a.x a.y, pt b.x b.y, pt c.x c.y, pt d.x d.y] (mt1 xn xd yn yd) []) :
    Ret Try.prog 8 [] [.ag (pts8 a b c d)] (.bool true) [] := by
  refine ret_of Try.func8 rfl rfl rfl ?_
  refine RC.use hM rfl ?_
  refine RC.use alive_ret rfl ?_
  exact ⟨rfl, rfl, trivial⟩
theorem along_ret (a b c d : Pt) : Ret Try.prog 8 [] [.ag (pts8 a b c d)] (.bool true) [] := by
  have hm := meet_ret a b c d
  cases hM : meetF a b c d with
  | no => rw [hM] at hm; exact along_no hm
  | place xn xd yn yd => rw [hM] at hm; exact along_place hm
  | along u v =>
    have hr := meetF_rt (a := a) (b := b) (c := c) (d := d) (by rw [hM]; intro e; cases e)
    obtain ⟨ra, rb, rc, rd⟩ := hr
    have k := meet_along hM
    have ru : rt u = true := by rcases k.2.2.1 with e | e | e | e <;> rw [e] <;> assumption
    have rv : rt v = true := by rcases k.2.2.2 with e | e | e | e <;> rw [e] <;> assumption
    rw [hM] at hm
    exact along_walk ra rb rc rd ru rv hm k.1 k.2.1 (cnt_two k.2.1.2 k.2.2.1 k.2.2.2)

end Go.Proofs.Ytllaijapijinoaa

namespace Go.Proofs.Ytllaijapijinoaa
open Go.Cw Go.ChangeShapes Go.WideShapes Go.ChangeAt Go.RowKit
set_option linter.unusedVariables false

theorem along_calls (a b c d e f g i : Int) (W : World) :
    Calls Try.prog 8 #[vpts a b c d e f g i] W fun e W' => e = .returned (.bool true) ∧ ∀ may, W.keptBut W' may := by
  refine calls_of_ret (vals := [vpts a b c d e f g i]) Try.func8 rfl rfl (along_ret ⟨a, b⟩ ⟨c, d⟩ ⟨e, f⟩ ⟨g, i⟩) rfl (fun j x v e1 e2 => ?_) W
  match j with
  | 0 =>
    simp only [List.getElem?_cons_zero, Option.some.injEq] at e1 e2
    subst e1; subst e2
    exact r1_ints [a, b, c, d, e, f, g, i]
  | j + 1 => simp at e1

set_option maxRecDepth 100000 in
theorem along_lifted (os : Os) (started : os.Started) (H : Type) (enc : TypeId × Value → H) :
    ReturnsInHanded {} Try.checked os 8 .any (Rows.crossAlongSpec.pre6 enc Try.prog Try.f8 Rows.crossAlongRow.domain false) (Rows.crossAlongSpec.post enc Try.prog Try.f8 false true false false) := by
  refine returnsInHanded_of_change (C := Try.checked) own started (by kernel_rfl) Try.func8
    (ChangeSpec.witness6 (enc := enc) (C := Try.checked) false ⟨#[], #[vpts 0 0 0 0 0 0 0 0], []⟩ 8 (by kernel_rfl) (by kernel_rfl) (by kernel_rfl) (by kernel_rfl)) ?_
  intro W base args ds gs before hval0 hW hcnd _
  have hval : ∀ (j : Nat) t v, Try.f8.params[j]? = some t → args[j]? = some v → Value.okWide Try.prog W .any base t v := hval0
  have hW' := hW
  obtain ⟨p, q, hA0, hV, rfl, hfz, hnd⟩ := hW
  have hA : DataW.TrodAll enc Try.prog W 0 (fun _ => true) true Try.f8.params.toList args.toList ds p := hA0
  rw [Try.params8] at hA hval
  obtain ⟨v0, vs0, d0, ds0, p0, q0, hargs, rfl, rfl, h0, r0⟩ := trodAll_cons hA
  obtain ⟨rfl, rfl, rfl⟩ := trodAll_nil r0
  obtain rfl : args = #[v0] := by cases args; simp_all
  obtain ⟨rfl, rfl⟩ := trodVars_none hV
  obtain ⟨a, b, c, d, e, f, g, i, rfl, rfl, rfl, hw⟩ := open_pts isPt Try.underlying53 cells53 (hval 0 53 v0 rfl rfl) h0
  clear hA0 hval0
  simp only [List.append_nil] at hW'
  refine (along_calls a b c d e f g i W).mono fun e' W' ⟨he, hg⟩ => ?_
  subst he
  exact ⟨_, rfl, ⟨_, _, [], [], [], [], hW', trodAll_cons_mk (shut_bool Try.underlying4 _) trodAll_mk0, trodAll_cons_mk (shut_pts isPt Try.underlying53 cells53 hw) trodAll_mk0, rfl, hg _, fun h => by cases h⟩⟩

theorem along_over : Rows.crossAlongRow.holds Try.pinned (OpenSpec.ofChange Rows.crossAlongSpec) :=
  OpenClaim.holds_of_wide 8 Try.f8 rfl rfl rfl rfl rfl rfl rfl ⟨rfl, rfl, rfl, rfl, rfl⟩ rfl rfl rfl rfl rfl (by kernel_rfl) Try.func8 (by kernel_rfl)
    (of_decide_eq_true (by kernel_rfl)) (by unfold Func.isWrapper; first | (rw [if_pos (by decide +kernel)]; kernel_rfl) | (rw [if_neg (by decide +kernel)]; exact ⟨rfl, rfl⟩))
    (fun os started H enc _ => along_lifted os started H enc)

theorem crossAlong : Rows.CrossAlongSaid := along_over

#print axioms crossAlong
end Go.Proofs.Ytllaijapijinoaa

/-
  Parts of one proof, in their order: From a law's contract to its row: arguments of points, nothing of memory read. Conditions: those in each statement. · The contract of the law CrossTells. Conditions: none. · The statement 'CrossTells': what any two segments have in common, which points are right, and whether they have ends alone in common, or all, is what the document says. Conditions: none.
-/
import Derived.Test.YtllaijapijinoaaRows
import Derived.WalkKit
import Derived.ProofKit
import Derived.OpenShut
import Derived.Test.YtllaijapijinoaaB2
import Derived.Test.YtllaijapijinoaaB6
set_option linter.all false
namespace Go.Proofs.Ytllaijapijinoaa
open Go.Cw Go.ChangeShapes Go.WideShapes Go.ChangeAt Go.RowKit
set_option linter.unusedVariables false

theorem own : ownKnob Try.prog.godebug = none := by kernel_rfl
theorem kept_of_sat {cx : Ctx} {h : PH} {ρ : Ro} {B : Nat → ABlk} {w : World} (s : Sat cx h ρ B w) (hown : ∀ q, ¬ cx.own q) (may : MemPlace → Prop) : cx.w0.keptBut w may := by
  refine ⟨s.os, s.output, fun i hi => ?_⟩
  rw [s.frame i hi (hown i)]
  cases cx.w0.heap[i]? with
  | none => rfl
  | some o => cases o with
    | cells c t fr => exact ⟨rfl, rfl, rfl, fun _ _ => rfl⟩
    | map es cl => exact .inr ⟨rfl, rfl⟩
    | _ => rfl
section
variable {P : Program}
/-- A law that holds for these arguments. -/
theorem calls_of_ret {f : FuncId} {fn : Func} {c : Code} (hf : P.funcs[f]? = some fn) (hb : fn.body = some c) (hname : (fn.name == "runtime.NumGoroutine") = false) {args : List AV} {vals : List Value}
    (R : Ret P f [] args (.bool true) []) (hl : vals.length = args.length) (hv : ∀ (j : Nat) x v, args[j]? = some x → vals[j]? = some v → R1 (fun _ => none) (fun _ => none) x v) (W : World) :
    Calls P f vals.toArray W fun e W' => e = .returned (.bool true) ∧ ∀ may, W.keptBut W' may := by
  have h := R.run W (fun _ => none) (fun _ => none) vals (fun g o hg => by cases hg) (fun id => trivial) (fun id q hq => rfl) (fun id id' q hq _ => by simp [blkOf] at hq) (fun id _ => rfl) hl hv
  have hname' : ¬ fn.name = "runtime.NumGoroutine" := by simpa using hname
  have hcall : (callFunc f vals.toArray).run P W = .ok (.enter f vals.toArray) W := by
    simp [callFunc, go_sem, hf, hb, hname']
  unfold CF at h
  rw [hcall] at h
  refine Calls.mono h fun e w'' he => ?_
  obtain ⟨v, rfl, h', ρ', _, _, r, s⟩ := he
  refine ⟨by rw [r.bool_inv], fun may => kept_of_sat s (fun q hq => ?_) may⟩
  obtain ⟨id, hq⟩ := hq
  simp [blkOf] at hq

variable {H : Type} {enc : TypeId × Value → H} {w : World} {base : Nat} {spare : Nat → Bool} {held : Bool} {fuel : Nat} {cs : List Value} {x : DataW H × List MemPlace}
abbrev dpt (a b : Int) : DataW H := .agg [.lit (.int .i64 a), .lit (.int .i64 b)]
abbrev okI (a : Int) : Prop := (Lit.int .i64 a).wf = true
/-- A type of points: its number, its fields' type. -/
structure IsPt (P : Program) (tp ti : TypeId) : Prop where
  up : ∃ f0 f1 : Field, P.underlying tp = some (.struct #[f0, f1]) ∧ f0.type = ti ∧ f1.type = ti ∧ f0.offset = 0 ∧ f1.offset = 1
  ui : P.underlying ti = some (.int .i64)
  cp : P.cellsOf tp = 2
  ci : P.cellsOf ti = 1
variable {tp ti ta : TypeId}
theorem open_pt (T : IsPt P tp ti) (h : DataW.trod enc P w base spare held fuel tp cs = some x) :
    ∃ a b : Int, cs = [.int .i64 a, .int .i64 b] ∧ x = (dpt a b, []) ∧ okI a ∧ okI b := by
  obtain ⟨f0, f1, hu, t0, t1, o0, o1⟩ := T.up
  obtain ⟨y0, y1, n, rfl, hl, h0, h1⟩ := trod_struct2 hu h
  rw [T.cp] at hl
  match cs, hl with
  | [c0, c1], _ =>
    rw [t0, o0, T.ci] at h0
    rw [t1, o1, T.ci] at h1
    obtain ⟨a, e0, rfl, w0⟩ := DataW.trod_int T.ui h0
    obtain ⟨b, e1, rfl, w1⟩ := DataW.trod_int T.ui h1
    simp at e0 e1
    subst e0; subst e1
    exact ⟨a, b, rfl, rfl, w0, w1⟩
theorem shut_pt (T : IsPt P tp ti) {a b : Int} (wa : okI a) (wb : okI b) (n : Nat) : DataW.trod enc P w base spare held (n + 2) tp [.int .i64 a, .int .i64 b] = some (dpt a b, []) := by
  obtain ⟨f0, f1, hu, t0, t1, o0, o1⟩ := T.up
  refine trod_struct2_mk (y0 := (.lit (.int .i64 a), [])) (y1 := (.lit (.int .i64 b), [])) hu (by rw [T.cp]; rfl) ?_ ?_
  · rw [t0, o0, T.ci]; exact trod_int_mk n T.ui wa
  · rw [t1, o1, T.ci]; exact trod_int_mk n T.ui wb
theorem open_point (T : IsPt P tp ti) {v : Value} {d : DataW H} {ps : List MemPlace} {r : Reach} {b0 : Nat} (hval : Value.okWide P w r b0 tp v) (hd : DataW.Trod enc P w base spare held tp v d ps) :
    ∃ a b : Int, v = .agg #[.int .i64 a, .int .i64 b] ∧ d = dpt a b ∧ ps = [] ∧ okI a ∧ okI b := by
  obtain ⟨f0, f1, hu, _⟩ := T.up
  unfold Value.okWide at hval
  rw [hu] at hval
  obtain ⟨cs, rfl, hsz, _⟩ := hval
  obtain ⟨fuel, hf⟩ := hd
  obtain ⟨a, b, e, rfl', wa, wb⟩ := open_pt T hf
  obtain ⟨l, rfl⟩ : ∃ l : List Value, cs = l.toArray := ⟨cs.toList, by simp⟩
  have e : l = [.int .i64 a, .int .i64 b] := e
  subst e
  simp only [Prod.mk.injEq] at rfl'
  exact ⟨a, b, rfl, rfl'.1, rfl'.2, wa, wb⟩
theorem shut_point (T : IsPt P tp ti) {a b : Int} (wa : okI a) (wb : okI b) : DataW.Trod enc P w base spare held tp (.agg #[.int .i64 a, .int .i64 b]) (dpt a b) [] := ⟨2, shut_pt T wa wb 0⟩
abbrev vpts (a b c d e f g i : Int) : Value := .agg #[.int .i64 a, .int .i64 b, .int .i64 c, .int .i64 d, .int .i64 e, .int .i64 f, .int .i64 g, .int .i64 i]
abbrev dpts (a b c d e f g i : Int) : DataW H := .agg [dpt a b, dpt c d, dpt e f, dpt g i]
theorem open_pts (T : IsPt P tp ti) (ha : P.underlying ta = some (.array 4 tp)) (hc : P.cellsOf ta = 8) {v : Value} {d : DataW H} {ps : List MemPlace} {r : Reach} {b0 : Nat} (hval : Value.okWide P w r b0 ta v) (hd : DataW.Trod enc P w base spare held ta v d ps) :
    ∃ a b c d' e f g i : Int, v = vpts a b c d' e f g i ∧ d = dpts a b c d' e f g i ∧ ps = [] ∧ (okI a ∧ okI b ∧ okI c ∧ okI d' ∧ okI e ∧ okI f ∧ okI g ∧ okI i) := by
  unfold Value.okWide at hval
  rw [ha] at hval
  obtain ⟨cs, rfl, hsz, _⟩ := hval
  obtain ⟨fuel, hf⟩ := hd
  obtain ⟨xs, m, rfl, hx, hl, hxl, hel⟩ := DataW.trod_array ha hf
  rw [hc] at hl
  obtain ⟨l, rfl⟩ : ∃ l : List Value, cs = l.toArray := ⟨cs.toList, by simp⟩
  have hl : l.length = 8 := hl
  have hel : ∀ (i : Nat), i < 4 → DataW.trod enc P w base spare held m tp ((l.drop (i * P.cellsOf tp)).take (P.cellsOf tp)) = xs[i]? := hel
  rw [T.cp] at hel
  match l, hl, xs, hxl with
  | [c0, c1, c2, c3, c4, c5, c6, c7], _, [y0, y1, y2, y3], _ =>
    obtain ⟨a0, b0, e0, z0, w0, w0'⟩ := open_pt T (hel 0 (by decide))
    obtain ⟨a1, b1, e1, z1, w1, w1'⟩ := open_pt T (hel 1 (by decide))
    obtain ⟨a2, b2, e2, z2, w2, w2'⟩ := open_pt T (hel 2 (by decide))
    obtain ⟨a3, b3, e3, z3, w3, w3'⟩ := open_pt T (hel 3 (by decide))
    simp at e0 e1 e2 e3
    subst z0 z1 z2 z3
    obtain ⟨rfl, rfl⟩ := e0
    obtain ⟨rfl, rfl⟩ := e1
    obtain ⟨rfl, rfl⟩ := e2
    obtain ⟨rfl, rfl⟩ := e3
    have h1 : d = dpts a0 b0 a1 b1 a2 b2 a3 b3 := congrArg Prod.fst hx
    have h2 : ps = [] := congrArg Prod.snd hx
    exact ⟨a0, b0, a1, b1, a2, b2, a3, b3, rfl, h1, h2, w0, w0', w1, w1', w2, w2', w3, w3'⟩
theorem shut_pts (T : IsPt P tp ti) (ha : P.underlying ta = some (.array 4 tp)) (hc : P.cellsOf ta = 8) {a b c d e f g i : Int} (wa : okI a ∧ okI b ∧ okI c ∧ okI d ∧ okI e ∧ okI f ∧ okI g ∧ okI i) : DataW.Trod enc P w base spare held ta (vpts a b c d e f g i) (dpts a b c d e f g i) [] := by
  obtain ⟨w0, w1, w2, w3, w4, w5, w6, w7⟩ := wa
  refine ⟨3, ?_⟩
  show DataW.trod enc P w base spare held 3 ta [.int .i64 a, .int .i64 b, .int .i64 c, .int .i64 d, .int .i64 e, .int .i64 f, .int .i64 g, .int .i64 i] = _
  have s0 : DataW.trod enc P w base spare held 2 tp [.int .i64 a, .int .i64 b] = some (dpt a b, []) := shut_pt T w0 w1 0
  have s1 : DataW.trod enc P w base spare held 2 tp [.int .i64 c, .int .i64 d] = some (dpt c d, []) := shut_pt T w2 w3 0
  have s2 : DataW.trod enc P w base spare held 2 tp [.int .i64 e, .int .i64 f] = some (dpt e f, []) := shut_pt T w4 w5 0
  have s3 : DataW.trod enc P w base spare held 2 tp [.int .i64 g, .int .i64 i] = some (dpt g i, []) := shut_pt T w6 w7 0
  unfold DataW.trod
  rw [ha]
  simp only [hc, T.cp]
  have hr : List.range 4 = [0, 1, 2, 3] := rfl
  rw [hr]
  simp [s0, s1, s2, s3]
end
theorem okI_bd {a : Int} (h : okI a) : -9223372036854775808 ≤ a ∧ a ≤ 9223372036854775807 := by
  have := bounds_i64 h
  omega
theorem isPt : IsPt Try.prog 27 3 := ⟨⟨_, _, Try.underlying27, rfl, rfl, rfl, rfl⟩, Try.underlying3, by kernel_rfl, by kernel_rfl⟩
theorem cells53 : Try.prog.cellsOf 53 = 8 := by kernel_rfl
theorem r0_int {h : PH} {ρ : Ro} {l : List Int} : ∀ (j : Nat) c v, (l.map (fun n => AV.int .i64 n))[j]? = some c → (l.map (fun n => Value.int .i64 n))[j]? = some v → R0 h ρ c v := by
  intro j c v e1 e2
  rw [List.getElem?_map, Option.map_eq_some_iff] at e1 e2
  obtain ⟨n, h1, rfl⟩ := e1
  obtain ⟨n', h2, rfl⟩ := e2
  rw [h1] at h2
  cases h2
  exact .lf (.cl rfl (.int _ _))
theorem r1_ints {h : PH} {ρ : Ro} (l : List Int) : R1 h ρ (.ag (l.map (fun n => AV.int .i64 n))) (.agg (l.map (fun n => Value.int .i64 n)).toArray) :=
  .ag _ _ (by simp) r0_int

end Go.Proofs.Ytllaijapijinoaa

namespace Go.Proofs.Ytllaijapijinoaa
open Go.Cw
set_option linter.unusedVariables false

def tellsS (a b c d : Pt) (m : List AV) : St := ⟨[(1, .ptr 0 0), (3, .ptr 1 0)], [(0, .cells 53 (pts8 a b c d)), (1, .cells 60 m)], 2⟩
set_option maxRecDepth 100000 in
set_option maxHeartbeats 16000000 in
theorem tells_no {a b c d : Pt} {t e : Bool} (hM : Ret Try.prog 24 [] [pt a.x a.y, pt b.x b.y, pt c.x c.y, pt d.x d.y] (mt0) [])
    (hW : Ret Try.prog 28 [] [pt a.x a.y, pt b.x b.y, pt c.x c.y, pt d.x d.y] (.ag rm0c) []) (hA : Ret Try.prog 27 [] [mt0, .ag rm0c] (.bool true) [])
    (h1 : Ret Try.prog 26 [] [pt a.x a.y] (.bool t) []) (h2 : Ret Try.prog 16 [] [pt a.x a.y] (.bool t) [])
    (e1 : Ret Try.prog 29 [] [pt a.x a.y, pt b.x b.y, pt c.x c.y, pt d.x d.y] (.bool e) []) (e2 : Ret Try.prog 30 [] [pt a.x a.y, pt b.x b.y, pt c.x c.y, pt d.x d.y] (.bool e) []) :
    Ret Try.prog 5 [] [.ag (pts8 a b c d)] (.bool true) [] := by
  refine ret_cut [2] Try.func5 rfl rfl rfl ?_
  refine RC.use hM rfl ?_
  refine ⟨tellsS a b c d [i64 0, i64 0, u64 0, i64 0, u64 0, i64 0, u64 0, i64 0, u64 0, i64 0, i64 0, i64 0, i64 0], [(0, 0), (1, 1)], ⟨rfl, rfl, rfl, ⟨rfl, rfl, rfl, rfl, trivial⟩, ⟨rfl, rfl, rfl, rfl, trivial⟩⟩, ?_⟩
  refine RC.use alive_ret rfl ?_
  refine RC.use h1 rfl ?_
  refine RC.use h2 rfl ?_
  refine BM.split (fun _ => ?_) (fun q => ?_)
  rotate_left
  · have q : (t == t) = false := q
    simp at q
  refine RC.use hW rfl ?_
  refine RC.use hA rfl ?_
  refine RC.use e1 rfl ?_
  refine RC.use e2 rfl ?_
  refine CL.yes (by kernel_rfl) ?_
  exact ⟨eq2 (.bool (e == e)) (by simp) rfl, rfl, trivial⟩
set_option maxRecDepth 100000 in
set_option maxHeartbeats 16000000 in
theorem tells_place {a b c d : Pt} {xn xd yn yd : Int} {t e : Bool} (hM : Ret Try.prog 24 [] [pt a.x a.y, pt b.x b.y, pt c.x c.y, pt d.x d.y] (mt1 xn xd yn yd) [])
    (hW : Ret Try.prog 28 [] [pt a.x a.y, pt b.x b.y, pt c.x c.y, pt d.x d.y] (.ag (rm1c xn xd yn yd)) []) (hA : Ret Try.prog 27 [] [mt1 xn xd yn yd, .ag (rm1c xn xd yn yd)] (.bool true) [])
    (h1 : Ret Try.prog 26 [] [pt a.x a.y] (.bool t) []) (h2 : Ret Try.prog 16 [] [pt a.x a.y] (.bool t) [])
    (e1 : Ret Try.prog 29 [] [pt a.x a.y, pt b.x b.y, pt c.x c.y, pt d.x d.y] (.bool e) []) (e2 : Ret Try.prog 30 [] [pt a.x a.y, pt b.x b.y, pt c.x c.y, pt d.x d.y] (.bool e) []) :
    Ret Try.prog 5 [] [.ag (pts8 a b c d)] (.bool true) [] := by
  refine ret_cut [2] Try.func5 rfl rfl rfl ?_
  refine RC.use hM rfl ?_
  refine ⟨tellsS a b c d (mt1c xn xd yn yd), [(0, 0), (1, 1)], ⟨rfl, rfl, rfl, ⟨rfl, rfl, rfl, rfl, trivial⟩, ⟨rfl, rfl, rfl, rfl, trivial⟩⟩, ?_⟩
  refine RC.use alive_ret rfl ?_
  refine RC.use h1 rfl ?_
  refine RC.use h2 rfl ?_
  refine BM.split (fun _ => ?_) (fun q => ?_)
  rotate_left
  · have q : (t == t) = false := q
    simp at q
  refine RC.use hW rfl ?_
  refine RC.use hA rfl ?_
  refine RC.use e1 rfl ?_
  refine RC.use e2 rfl ?_
  refine CL.yes (by kernel_rfl) ?_
  exact ⟨eq2 (.bool (e == e)) (by simp) rfl, rfl, trivial⟩
set_option maxRecDepth 100000 in
set_option maxHeartbeats 16000000 in
theorem tells_along {a b c d : Pt} {u v : Pt} {t e : Bool} (hM : Ret Try.prog 24 [] [pt a.x a.y, pt b.x b.y, pt c.x c.y, pt d.x d.y] (mt2 u.x u.y v.x v.y) [])
    (hW : Ret Try.prog 28 [] [pt a.x a.y, pt b.x b.y, pt c.x c.y, pt d.x d.y] (.ag (rm2c u v)) []) (hA : Ret Try.prog 27 [] [mt2 u.x u.y v.x v.y, .ag (rm2c u v)] (.bool true) [])
    (h1 : Ret Try.prog 26 [] [pt a.x a.y] (.bool t) []) (h2 : Ret Try.prog 16 [] [pt a.x a.y] (.bool t) [])
    (e1 : Ret Try.prog 29 [] [pt a.x a.y, pt b.x b.y, pt c.x c.y, pt d.x d.y] (.bool e) []) (e2 : Ret Try.prog 30 [] [pt a.x a.y, pt b.x b.y, pt c.x c.y, pt d.x d.y] (.bool e) []) :
    Ret Try.prog 5 [] [.ag (pts8 a b c d)] (.bool true) [] := by
  refine ret_cut [2] Try.func5 rfl rfl rfl ?_
  refine RC.use hM rfl ?_
  refine ⟨tellsS a b c d [i64 2, i64 0, u64 0, i64 0, u64 0, i64 0, u64 0, i64 0, u64 0, i64 u.x, i64 u.y, i64 v.x, i64 v.y], [(0, 0), (1, 1)], ⟨rfl, rfl, rfl, ⟨rfl, rfl, rfl, rfl, trivial⟩, ⟨rfl, rfl, rfl, rfl, trivial⟩⟩, ?_⟩
  refine RC.use alive_ret rfl ?_
  refine RC.use h1 rfl ?_
  refine RC.use h2 rfl ?_
  refine BM.split (fun _ => ?_) (fun q => ?_)
  rotate_left
  · have q : (t == t) = false := q
    simp at q
  refine RC.use hW rfl ?_
  refine RC.use hA rfl ?_
  refine RC.use e1 rfl ?_
  refine RC.use e2 rfl ?_
  refine CL.yes (by kernel_rfl) ?_
  exact ⟨eq2 (.bool (e == e)) (by simp) rfl, rfl, trivial⟩
theorem tells_ret (a b c d : Pt) : Ret Try.prog 5 [] [.ag (pts8 a b c d)] (.bool true) [] := by
  have hm := meet_ret a b c d
  have hw := rmeet_ret a b c d
  have ha := alike_ret (meetF_good a b c d)
  have h1 := crossRight_of (p := a) rfl
  have h2 := refRight_ret a
  have e1 := ends_ret a b c d
  have e2 := rends_ret a b c d
  cases hM : meetF a b c d with
  | no => rw [hM] at hm hw ha; exact tells_no hm hw ha h1 h2 e1 e2
  | place xn xd yn yd => rw [hM] at hm hw ha; exact tells_place hm hw ha h1 h2 e1 e2
  | along u v => rw [hM] at hm hw ha; exact tells_along hm hw ha h1 h2 e1 e2

end Go.Proofs.Ytllaijapijinoaa

namespace Go.Proofs.Ytllaijapijinoaa
open Go.Cw Go.ChangeShapes Go.WideShapes Go.ChangeAt Go.RowKit
set_option linter.unusedVariables false

theorem tells_calls (a b c d e f g i : Int) (W : World) :
    Calls Try.prog 5 #[vpts a b c d e f g i] W fun e W' => e = .returned (.bool true) ∧ ∀ may, W.keptBut W' may := by
  refine calls_of_ret (vals := [vpts a b c d e f g i]) Try.func5 rfl rfl (tells_ret ⟨a, b⟩ ⟨c, d⟩ ⟨e, f⟩ ⟨g, i⟩) rfl (fun j x v e1 e2 => ?_) W
  match j with
  | 0 =>
    simp only [List.getElem?_cons_zero, Option.some.injEq] at e1 e2
    subst e1; subst e2
    exact r1_ints [a, b, c, d, e, f, g, i]
  | j + 1 => simp at e1

set_option maxRecDepth 100000 in
theorem tells_lifted (os : Os) (started : os.Started) (H : Type) (enc : TypeId × Value → H) :
    ReturnsInHanded {} Try.checked os 5 .any (Rows.crossTellsSpec.pre6 enc Try.prog Try.f5 Rows.crossTellsRow.domain false) (Rows.crossTellsSpec.post enc Try.prog Try.f5 false true false false) := by
  refine returnsInHanded_of_change (C := Try.checked) own started (by kernel_rfl) Try.func5
    (ChangeSpec.witness6 (enc := enc) (C := Try.checked) false ⟨#[], #[vpts 0 0 0 0 0 0 0 0], []⟩ 8 (by kernel_rfl) (by kernel_rfl) (by kernel_rfl) (by kernel_rfl)) ?_
  intro W base args ds gs before hval0 hW hcnd _
  have hval : ∀ (j : Nat) t v, Try.f5.params[j]? = some t → args[j]? = some v → Value.okWide Try.prog W .any base t v := hval0
  have hW' := hW
  obtain ⟨p, q, hA0, hV, rfl, hfz, hnd⟩ := hW
  have hA : DataW.TrodAll enc Try.prog W 0 (fun _ => true) true Try.f5.params.toList args.toList ds p := hA0
  rw [Try.params5] at hA hval
  obtain ⟨v0, vs0, d0, ds0, p0, q0, hargs, rfl, rfl, h0, r0⟩ := trodAll_cons hA
  obtain ⟨rfl, rfl, rfl⟩ := trodAll_nil r0
  obtain rfl : args = #[v0] := by cases args; simp_all
  obtain ⟨rfl, rfl⟩ := trodVars_none hV
  obtain ⟨a, b, c, d, e, f, g, i, rfl, rfl, rfl, hw⟩ := open_pts isPt Try.underlying53 cells53 (hval 0 53 v0 rfl rfl) h0
  clear hA0 hval0
  simp only [List.append_nil] at hW'
  refine (tells_calls a b c d e f g i W).mono fun e' W' ⟨he, hg⟩ => ?_
  subst he
  exact ⟨_, rfl, ⟨_, _, [], [], [], [], hW', trodAll_cons_mk (shut_bool Try.underlying4 _) trodAll_mk0, trodAll_cons_mk (shut_pts isPt Try.underlying53 cells53 hw) trodAll_mk0, rfl, hg _, fun h => by cases h⟩⟩

theorem tells_over : Rows.crossTellsRow.holds Try.pinned (OpenSpec.ofChange Rows.crossTellsSpec) :=
  OpenClaim.holds_of_wide 5 Try.f5 rfl rfl rfl rfl rfl rfl rfl ⟨rfl, rfl, rfl, rfl, rfl⟩ rfl rfl rfl rfl rfl (by kernel_rfl) Try.func5 (by kernel_rfl)
    (of_decide_eq_true (by kernel_rfl)) (by unfold Func.isWrapper; first | (rw [if_pos (by decide +kernel)]; kernel_rfl) | (rw [if_neg (by decide +kernel)]; exact ⟨rfl, rfl⟩))
    (fun os started H enc _ => tells_lifted os started H enc)

theorem crossTells : Rows.CrossTellsSaid := tells_over

#print axioms crossTells
end Go.Proofs.Ytllaijapijinoaa

/-
  Parts of one proof, in their order: From a law's contract to its row: arguments of points, nothing of memory read. Conditions: those in each statement. · From a law's contract to its row, where arguments hold slices: the memory is read as it is, and read again behind. Conditions: those in each statement. · The statement 'ChainClose': whether a chain goes along a segment, so far apart at most, is what the document says; it does, too, a little farther apart, and turned round. Conditions: none.
-/
import Derived.Test.YtllaijapijinoaaRows
import Derived.WalkKit
import Derived.ProofKit
import Derived.OpenShut
import Derived.Test.YtllaijapijinoaaB2
import Derived.ReadAgain
import Derived.ChangeOld
import Derived.ChangeArms
import Derived.SizedLaws
import Derived.Test.YtllaijapijinoaaB8
set_option linter.all false
namespace Go.Proofs.Ytllaijapijinoaa
open Go.Cw Go.ChangeShapes Go.WideShapes Go.ChangeAt Go.RowKit
set_option linter.unusedVariables false

theorem own : ownKnob Try.prog.godebug = none := by kernel_rfl
theorem kept_of_sat {cx : Ctx} {h : PH} {ρ : Ro} {B : Nat → ABlk} {w : World} (s : Sat cx h ρ B w) (hown : ∀ q, ¬ cx.own q) (may : MemPlace → Prop) : cx.w0.keptBut w may := by
  refine ⟨s.os, s.output, fun i hi => ?_⟩
  rw [s.frame i hi (hown i)]
  cases cx.w0.heap[i]? with
  | none => rfl
  | some o => cases o with
    | cells c t fr => exact ⟨rfl, rfl, rfl, fun _ _ => rfl⟩
    | map es cl => exact .inr ⟨rfl, rfl⟩
    | _ => rfl
section
variable {P : Program}
/-- A law that holds for these arguments. -/
theorem calls_of_ret {f : FuncId} {fn : Func} {c : Code} (hf : P.funcs[f]? = some fn) (hb : fn.body = some c) (hname : (fn.name == "runtime.NumGoroutine") = false) {args : List AV} {vals : List Value}
    (R : Ret P f [] args (.bool true) []) (hl : vals.length = args.length) (hv : ∀ (j : Nat) x v, args[j]? = some x → vals[j]? = some v → R1 (fun _ => none) (fun _ => none) x v) (W : World) :
    Calls P f vals.toArray W fun e W' => e = .returned (.bool true) ∧ ∀ may, W.keptBut W' may := by
  have h := R.run W (fun _ => none) (fun _ => none) vals (fun g o hg => by cases hg) (fun id => trivial) (fun id q hq => rfl) (fun id id' q hq _ => by simp [blkOf] at hq) (fun id _ => rfl) hl hv
  have hname' : ¬ fn.name = "runtime.NumGoroutine" := by simpa using hname
  have hcall : (callFunc f vals.toArray).run P W = .ok (.enter f vals.toArray) W := by
    simp [callFunc, go_sem, hf, hb, hname']
  unfold CF at h
  rw [hcall] at h
  refine Calls.mono h fun e w'' he => ?_
  obtain ⟨v, rfl, h', ρ', _, _, r, s⟩ := he
  refine ⟨by rw [r.bool_inv], fun may => kept_of_sat s (fun q hq => ?_) may⟩
  obtain ⟨id, hq⟩ := hq
  simp [blkOf] at hq

variable {H : Type} {enc : TypeId × Value → H} {w : World} {base : Nat} {spare : Nat → Bool} {held : Bool} {fuel : Nat} {cs : List Value} {x : DataW H × List MemPlace}
abbrev dpt (a b : Int) : DataW H := .agg [.lit (.int .i64 a), .lit (.int .i64 b)]
abbrev okI (a : Int) : Prop := (Lit.int .i64 a).wf = true
/-- A type of points: its number, its fields' type. -/
structure IsPt (P : Program) (tp ti : TypeId) : Prop where
  up : ∃ f0 f1 : Field, P.underlying tp = some (.struct #[f0, f1]) ∧ f0.type = ti ∧ f1.type = ti ∧ f0.offset = 0 ∧ f1.offset = 1
  ui : P.underlying ti = some (.int .i64)
  cp : P.cellsOf tp = 2
  ci : P.cellsOf ti = 1
variable {tp ti ta : TypeId}
theorem open_pt (T : IsPt P tp ti) (h : DataW.trod enc P w base spare held fuel tp cs = some x) :
    ∃ a b : Int, cs = [.int .i64 a, .int .i64 b] ∧ x = (dpt a b, []) ∧ okI a ∧ okI b := by
  obtain ⟨f0, f1, hu, t0, t1, o0, o1⟩ := T.up
  obtain ⟨y0, y1, n, rfl, hl, h0, h1⟩ := trod_struct2 hu h
  rw [T.cp] at hl
  match cs, hl with
  | [c0, c1], _ =>
    rw [t0, o0, T.ci] at h0
    rw [t1, o1, T.ci] at h1
    obtain ⟨a, e0, rfl, w0⟩ := DataW.trod_int T.ui h0
    obtain ⟨b, e1, rfl, w1⟩ := DataW.trod_int T.ui h1
    simp at e0 e1
    subst e0; subst e1
    exact ⟨a, b, rfl, rfl, w0, w1⟩
theorem shut_pt (T : IsPt P tp ti) {a b : Int} (wa : okI a) (wb : okI b) (n : Nat) : DataW.trod enc P w base spare held (n + 2) tp [.int .i64 a, .int .i64 b] = some (dpt a b, []) := by
  obtain ⟨f0, f1, hu, t0, t1, o0, o1⟩ := T.up
  refine trod_struct2_mk (y0 := (.lit (.int .i64 a), [])) (y1 := (.lit (.int .i64 b), [])) hu (by rw [T.cp]; rfl) ?_ ?_
  · rw [t0, o0, T.ci]; exact trod_int_mk n T.ui wa
  · rw [t1, o1, T.ci]; exact trod_int_mk n T.ui wb
theorem open_point (T : IsPt P tp ti) {v : Value} {d : DataW H} {ps : List MemPlace} {r : Reach} {b0 : Nat} (hval : Value.okWide P w r b0 tp v) (hd : DataW.Trod enc P w base spare held tp v d ps) :
    ∃ a b : Int, v = .agg #[.int .i64 a, .int .i64 b] ∧ d = dpt a b ∧ ps = [] ∧ okI a ∧ okI b := by
  obtain ⟨f0, f1, hu, _⟩ := T.up
  unfold Value.okWide at hval
  rw [hu] at hval
  obtain ⟨cs, rfl, hsz, _⟩ := hval
  obtain ⟨fuel, hf⟩ := hd
  obtain ⟨a, b, e, rfl', wa, wb⟩ := open_pt T hf
  obtain ⟨l, rfl⟩ : ∃ l : List Value, cs = l.toArray := ⟨cs.toList, by simp⟩
  have e : l = [.int .i64 a, .int .i64 b] := e
  subst e
  simp only [Prod.mk.injEq] at rfl'
  exact ⟨a, b, rfl, rfl'.1, rfl'.2, wa, wb⟩
theorem shut_point (T : IsPt P tp ti) {a b : Int} (wa : okI a) (wb : okI b) : DataW.Trod enc P w base spare held tp (.agg #[.int .i64 a, .int .i64 b]) (dpt a b) [] := ⟨2, shut_pt T wa wb 0⟩
abbrev vpts (a b c d e f g i : Int) : Value := .agg #[.int .i64 a, .int .i64 b, .int .i64 c, .int .i64 d, .int .i64 e, .int .i64 f, .int .i64 g, .int .i64 i]
abbrev dpts (a b c d e f g i : Int) : DataW H := .agg [dpt a b, dpt c d, dpt e f, dpt g i]
theorem open_pts (T : IsPt P tp ti) (ha : P.underlying ta = some (.array 4 tp)) (hc : P.cellsOf ta = 8) {v : Value} {d : DataW H} {ps : List MemPlace} {r : Reach} {b0 : Nat} (hval : Value.okWide P w r b0 ta v) (hd : DataW.Trod enc P w base spare held ta v d ps) :
    ∃ a b c d' e f g i : Int, v = vpts a b c d' e f g i ∧ d = dpts a b c d' e f g i ∧ ps = [] ∧ (okI a ∧ okI b ∧ okI c ∧ okI d' ∧ okI e ∧ okI f ∧ okI g ∧ okI i) := by
  unfold Value.okWide at hval
  rw [ha] at hval
  obtain ⟨cs, rfl, hsz, _⟩ := hval
  obtain ⟨fuel, hf⟩ := hd
  obtain ⟨xs, m, rfl, hx, hl, hxl, hel⟩ := DataW.trod_array ha hf
  rw [hc] at hl
  obtain ⟨l, rfl⟩ : ∃ l : List Value, cs = l.toArray := ⟨cs.toList, by simp⟩
  have hl : l.length = 8 := hl
  have hel : ∀ (i : Nat), i < 4 → DataW.trod enc P w base spare held m tp ((l.drop (i * P.cellsOf tp)).take (P.cellsOf tp)) = xs[i]? := hel
  rw [T.cp] at hel
  match l, hl, xs, hxl with
  | [c0, c1, c2, c3, c4, c5, c6, c7], _, [y0, y1, y2, y3], _ =>
    obtain ⟨a0, b0, e0, z0, w0, w0'⟩ := open_pt T (hel 0 (by decide))
    obtain ⟨a1, b1, e1, z1, w1, w1'⟩ := open_pt T (hel 1 (by decide))
    obtain ⟨a2, b2, e2, z2, w2, w2'⟩ := open_pt T (hel 2 (by decide))
    obtain ⟨a3, b3, e3, z3, w3, w3'⟩ := open_pt T (hel 3 (by decide))
    simp at e0 e1 e2 e3
    subst z0 z1 z2 z3
    obtain ⟨rfl, rfl⟩ := e0
    obtain ⟨rfl, rfl⟩ := e1
    obtain ⟨rfl, rfl⟩ := e2
    obtain ⟨rfl, rfl⟩ := e3
    have h1 : d = dpts a0 b0 a1 b1 a2 b2 a3 b3 := congrArg Prod.fst hx
    have h2 : ps = [] := congrArg Prod.snd hx
    exact ⟨a0, b0, a1, b1, a2, b2, a3, b3, rfl, h1, h2, w0, w0', w1, w1', w2, w2', w3, w3'⟩
theorem shut_pts (T : IsPt P tp ti) (ha : P.underlying ta = some (.array 4 tp)) (hc : P.cellsOf ta = 8) {a b c d e f g i : Int} (wa : okI a ∧ okI b ∧ okI c ∧ okI d ∧ okI e ∧ okI f ∧ okI g ∧ okI i) : DataW.Trod enc P w base spare held ta (vpts a b c d e f g i) (dpts a b c d e f g i) [] := by
  obtain ⟨w0, w1, w2, w3, w4, w5, w6, w7⟩ := wa
  refine ⟨3, ?_⟩
  show DataW.trod enc P w base spare held 3 ta [.int .i64 a, .int .i64 b, .int .i64 c, .int .i64 d, .int .i64 e, .int .i64 f, .int .i64 g, .int .i64 i] = _
  have s0 : DataW.trod enc P w base spare held 2 tp [.int .i64 a, .int .i64 b] = some (dpt a b, []) := shut_pt T w0 w1 0
  have s1 : DataW.trod enc P w base spare held 2 tp [.int .i64 c, .int .i64 d] = some (dpt c d, []) := shut_pt T w2 w3 0
  have s2 : DataW.trod enc P w base spare held 2 tp [.int .i64 e, .int .i64 f] = some (dpt e f, []) := shut_pt T w4 w5 0
  have s3 : DataW.trod enc P w base spare held 2 tp [.int .i64 g, .int .i64 i] = some (dpt g i, []) := shut_pt T w6 w7 0
  unfold DataW.trod
  rw [ha]
  simp only [hc, T.cp]
  have hr : List.range 4 = [0, 1, 2, 3] := rfl
  rw [hr]
  simp [s0, s1, s2, s3]
end
theorem okI_bd {a : Int} (h : okI a) : -9223372036854775808 ≤ a ∧ a ≤ 9223372036854775807 := by
  have := bounds_i64 h
  omega
theorem isPt : IsPt Try.prog 27 3 := ⟨⟨_, _, Try.underlying27, rfl, rfl, rfl, rfl⟩, Try.underlying3, by kernel_rfl, by kernel_rfl⟩
theorem cells53 : Try.prog.cellsOf 53 = 8 := by kernel_rfl
theorem r0_int {h : PH} {ρ : Ro} {l : List Int} : ∀ (j : Nat) c v, (l.map (fun n => AV.int .i64 n))[j]? = some c → (l.map (fun n => Value.int .i64 n))[j]? = some v → R0 h ρ c v := by
  intro j c v e1 e2
  rw [List.getElem?_map, Option.map_eq_some_iff] at e1 e2
  obtain ⟨n, h1, rfl⟩ := e1
  obtain ⟨n', h2, rfl⟩ := e2
  rw [h1] at h2
  cases h2
  exact .lf (.cl rfl (.int _ _))
theorem r1_ints {h : PH} {ρ : Ro} (l : List Int) : R1 h ρ (.ag (l.map (fun n => AV.int .i64 n))) (.agg (l.map (fun n => Value.int .i64 n)).toArray) :=
  .ag _ _ (by simp) r0_int

end Go.Proofs.Ytllaijapijinoaa

set_option linter.all false
namespace Go.Proofs.Ytllaijapijinoaa
open Go.Cw Go.ChangeShapes Go.WideShapes Go.ChangeAt Go.RowKit

/-- All memory, as it is. -/
def allOf (W : World) : PH := fun g => W.heap[g]?
theorem allOf_cell (W : World) (a : Addr) : (allOf W).cell a = W.cell? a := by
  unfold PH.cell World.cell? allOf
  rfl
structure Still (W W' : World) : Prop where
  os : W'.os = W.os
  output : W'.output = W.output
  size : W.heap.size ≤ W'.heap.size
  same : ∀ i, i < W.heap.size → W'.heap[i]? = W.heap[i]?
theorem Still.kept {W W' : World} (s : Still W W') (may : MemPlace → Prop) : W.keptBut W' may := by
  refine ⟨s.os, s.output, fun i hi => ?_⟩
  rw [s.same i hi]
  cases W.heap[i]? with
  | none => rfl
  | some o => cases o with
    | cells c t fr => exact ⟨rfl, rfl, rfl, fun _ _ => rfl⟩
    | map es cl => exact .inr ⟨rfl, rfl⟩
    | _ => rfl
section
variable {P : Program}
/-- A law that holds for these arguments. -/
theorem calls_all {f : FuncId} {fn : Func} {c : Code} (hf : P.funcs[f]? = some fn) (hb : fn.body = some c) (hname : (fn.name == "runtime.NumGoroutine") = false) {args : List AV} {vals : List Value} (W : World)
    (R : Ret P f [] args (.bool true) []) (hl : vals.length = args.length) (hv : ∀ (j : Nat) x v, args[j]? = some x → vals[j]? = some v → R1 (allOf W) (fun _ => none) x v) :
    Calls P f vals.toArray W fun e W' => e = .returned (.bool true) ∧ Still W W' := by
  have h := R.run W (allOf W) (fun _ => none) vals (fun g o hg => hg) (fun id => trivial) (fun id q hq => by simp [blkOf] at hq) (fun id id' q hq _ => by simp [blkOf] at hq) (fun id _ => rfl) hl hv
  have hname' : ¬ fn.name = "runtime.NumGoroutine" := by simpa using hname
  have hcall : (callFunc f vals.toArray).run P W = .ok (.enter f vals.toArray) W := by
    simp [callFunc, go_sem, hf, hb, hname']
  unfold CF at h
  rw [hcall] at h
  refine Calls.mono h fun e w'' he => ?_
  obtain ⟨v, rfl, h', ρ', _, _, r, s⟩ := he
  refine ⟨by rw [r.bool_inv], s.os, s.output, s.size, fun i hi => s.frame i hi fun hq => ?_⟩
  obtain ⟨id, hq⟩ := hq
  simp [blkOf] at hq

variable {H : Type} {enc : TypeId × Value → H}
theorem sameAt_of {W W' : World} (s : Still W W') {p : MemPlace} (hp : p.block < W.heap.size) : W.sameAt W' p := by
  cases p with
  | cell b off =>
    show W'.cell? _ = W.cell? _
    unfold World.cell?
    rw [s.same b hp]
  | map b => exact s.same b hp
theorem trodAll_carry {W W' : World} {base : Nat} {spare : Nat → Bool} {held : Bool} : ∀ {ts : List TypeId} {vs : List Value} {ds : List (DataW H)} {ps : List MemPlace}, DataW.TrodAll enc P W base spare held ts vs ds ps → (∀ p ∈ ps, W.sameAt W' p) → DataW.TrodAll enc P W' base spare held ts vs ds ps
  | [], [], [], _, h, _ => h
  | _ :: _, _ :: _, _ :: _, _, ⟨p, q, ⟨n, h1⟩, h2, e⟩, hs => ⟨p, q, ⟨n, DataW.trod_carry n _ _ _ h1 fun x hx => hs x (by rw [e]; exact List.mem_append_left _ hx)⟩, trodAll_carry h2 (fun x hx => hs x (by rw [e]; exact List.mem_append_right _ hx)), e⟩
/-- The arguments are read again behind the call as they were. -/
theorem trod_back (K : Kids P (· < P.types.size)) (hz : ∀ t e, t < P.types.size → P.underlying t = some (.slice e) → 0 < P.cellsOf e) {W W' : World} (s : Still W W') {ts : List TypeId} {vs : List Value} {ds : List (DataW H)} {ps : List MemPlace}
    (hT : ∀ t ∈ ts, t < P.types.size) (h : DataW.TrodAll enc P W 0 (fun _ => true) true ts vs ds ps) (hlt : ∀ p ∈ ps, p.block < W.heap.size) : DataW.TrodAll enc P W' 0 (fun b => decide (b < W.heap.size)) true ts vs ds ps :=
  trodAll_carry (DataW.TrodAll.respare K hz hT h fun p hp => decide_eq_true (hlt p hp)) fun p hp => sameAt_of s (hlt p hp)

/-! ### Slices -/
/-- Cells stand for values. -/
structure RvL (h : PH) (es : List AV) (cs : List Value) : Prop where
  len : cs.length = es.length
  get : ∀ (j : Nat) x v, es[j]? = some x → cs[j]? = some v → Rv h x v
theorem cells_get {W : World} {a : Addr} {n : Nat} {cs : List Value} (h : W.cells? 0 a n = some cs) : cs.length = n ∧ ∀ j, j < n → W.cell? (a.add j) = cs[j]? := by
  unfold World.cells? at h
  split at h
  · refine ⟨by simpa using mapM_some_length h, fun j hj => ?_⟩
    exact mapM_some_get h j j (by simp [hj])
  · cases h
theorem add_add (a : Addr) (i j : Nat) : (a.add i).add j = a.add (i + j) := by
  unfold Addr.add
  by_cases hi : i = 0 <;> by_cases hj : j = 0 <;> simp [hi, hj, Nat.add_assoc]
theorem mem_weightsAll {e : TypeId} : ∀ {l : List (DataW H)} {i : Nat} {d : DataW H}, l[i]? = some d → ∀ n ∈ DataW.weights P e d, n ∈ DataW.weightsAll P e l
  | d0 :: l, 0, d, h, n, hn => by
    simp at h; subst h
    simp only [DataW.weightsAll, List.mem_append]
    exact .inl hn
  | d0 :: l, i + 1, d, h, n, hn => by
    simp at h
    simp only [DataW.weightsAll, List.mem_append]
    exact .inr (mem_weightsAll h n hn)
  | [], _, _, h, _, _ => by simp at h
/-- All that was laid for it is within reach. -/
def Wt (P : Program) (t : TypeId) (d : DataW H) : Prop := ∀ n ∈ DataW.weights P t d, n ≤ reachBytes
theorem open_sl {W : World} {spare : Nat → Bool} {held : Bool} {t e : TypeId} (ht : P.underlying t = some (.slice e)) {α : Type} (E : α → AV) (z : Option Nat) (Q : α → Prop) (hz : ∀ a, zform z (E a)) (hn : P.cellsOf e = zsize z) (hby : 0 < P.bytesOf e)
    (hel : ∀ (fuel : Nat) cs x, DataW.trod enc P W 0 spare held fuel e cs = some x → Wt P e x.1 → ∃ a, Q a ∧ RvL (allOf W) (E a).cells cs) {fuel : Nat} {cs : List Value} {x : DataW H × List MemPlace}
    (h : DataW.trod enc P W 0 spare held fuel t cs = some x) (hw : Wt P t x.1) : ∃ l : List α, (∀ a ∈ l, Q a) ∧ l.length ≤ reachBytes ∧ ∃ v, cs = [v] ∧ Rv (allOf W) (.sl z (l.map E)) v := by
  rcases DataW.trod_slice ht h with ⟨rfl, _⟩ | ⟨a, len, cap, elems, rest, n, _, rfl, hx, _, hl, hm, hlen, hin, _⟩
  · exact ⟨[], (fun a h => by cases h), Nat.zero_le _, _, rfl, .sl0 z none 0⟩
  have hW : ∀ n, n = ((elems.map (·.1)).length + (rest.map (·.1)).length) * P.bytesOf e ∨ n ∈ DataW.weightsAll P e (elems.map (·.1)) → n ≤ reachBytes := fun n hn => hw n (by
    rw [hx]
    simp only [DataW.weights, ht, List.mem_cons, List.mem_append]
    rcases hn with h | h
    · exact .inl h
    · exact .inr (.inl h))
  have hlb : len ≤ reachBytes := by
    have h1 := hW _ (.inl rfl)
    have h2 : len * 1 ≤ ((elems.map (·.1)).length + (rest.map (·.1)).length) * P.bytesOf e := Nat.mul_le_mul (by simp; omega) hby
    omega
  have key : ∀ i, i < len → ∃ y cs', W.cells? 0 (a.add (i * P.cellsOf e)) (P.cellsOf e) = some cs' ∧ Q y ∧ RvL (allOf W) (E y).cells cs' := by
    intro i hi
    have h1 := hin i hi
    rw [List.getElem?_eq_getElem (by omega)] at h1
    obtain ⟨cs', h2, h3⟩ := Option.bind_eq_some_iff.1 h1
    obtain ⟨y, hy, hr⟩ := hel _ _ _ h3 fun n hn => hW n (.inr (mem_weightsAll (i := i) (by rw [List.getElem?_map, List.getElem?_eq_getElem (show i < elems.length by omega)]; rfl) n hn))
    exact ⟨y, cs', h2, hy, hr⟩
  classical
  have : ∀ m, m ≤ len → ∃ l : List α, l.length = m ∧ ∀ i y, l[i]? = some y → ∃ cs', W.cells? 0 (a.add (i * P.cellsOf e)) (P.cellsOf e) = some cs' ∧ Q y ∧ RvL (allOf W) (E y).cells cs' := by
    intro m
    induction m with
    | zero => exact fun _ => ⟨[], rfl, fun i y h => by simp at h⟩
    | succ m ih =>
      intro hm
      obtain ⟨l, h1, h2⟩ := ih (by omega)
      obtain ⟨y, hy⟩ := key m (by omega)
      refine ⟨l ++ [y], by simp [h1], fun i y' hi => ?_⟩
      rcases Nat.lt_or_ge i l.length with q | q
      · rw [List.getElem?_append_left q] at hi
        exact h2 i y' hi
      · rw [List.getElem?_append_right q] at hi
        cases hd : i - l.length with
        | zero => rw [hd] at hi; simp at hi; subst hi; rw [show i = m by omega]; exact hy
        | succ k => rw [hd] at hi; simp at hi
  obtain ⟨l, hl1, hl2⟩ := this len (Nat.le_refl _)
  refine ⟨l, fun y hy => ?_, by omega, _, rfl, ?_⟩
  · obtain ⟨i, hi⟩ := List.getElem?_of_mem hy
    obtain ⟨_, _, hq, _⟩ := hl2 i y hi
    exact hq
  have S : SlOk (allOf W) z (l.map E) (some a) len cap := by
    refine ⟨by simp [hl1], hl, fun e he => ?_, fun _ => ⟨a, rfl⟩, fun ad had i e j x h1 h2 => ?_⟩
    · obtain ⟨y, _, rfl⟩ := List.mem_map.1 he
      exact hz y
    · cases had
      rw [List.getElem?_map, Option.map_eq_some_iff] at h1
      obtain ⟨y, hy, rfl⟩ := h1
      obtain ⟨cs', hc, _, hr⟩ := hl2 i y hy
      obtain ⟨hcl, hcg⟩ := cells_get hc
      have hj : j < cs'.length := by rw [hr.len]; exact (List.getElem?_eq_some_iff.1 h2).1
      have h3 := hcg j (by omega)
      rw [add_add, List.getElem?_eq_getElem hj] at h3
      rw [hn] at h3
      exact ⟨cs'[j], by rw [allOf_cell]; exact h3, hr.get j x _ h2 (List.getElem?_eq_getElem hj)⟩
  exact S.rv
theorem rvl_ints {h : PH} {l : List Int} : RvL h (l.map fun n => AV.int .i64 n) (l.map fun n => Value.int .i64 n) := ⟨by simp, fun j x v h1 h2 => by
  rw [List.getElem?_map, Option.map_eq_some_iff] at h1 h2
  obtain ⟨n, h1, rfl⟩ := h1
  obtain ⟨n', h2, rfl⟩ := h2
  rw [h1] at h2
  cases h2
  exact .int _ _⟩
end
theorem kids : Kids Try.prog (· < Try.prog.types.size) := kids_rows (by kernel_rfl) (by kernel_rfl)
theorem full : ∀ t e, t < Try.prog.types.size → Try.prog.underlying t = some (.slice e) → 0 < Try.prog.cellsOf e := slices_full_of Try.prog (by kernel_rfl)

end Go.Proofs.Ytllaijapijinoaa

set_option linter.all false
namespace Go.Proofs.Ytllaijapijinoaa
open Go.Cw Go.ChangeShapes Go.WideShapes Go.ChangeAt Go.RowKit

section
variable {H : Type} {enc : TypeId × Value → H} {W : World} {spare : Nat → Bool} {held : Bool}
theorem open_i64 {fuel : Nat} {cs : List Value} {x : DataW H × List MemPlace} (h : DataW.trod enc Try.prog W 0 spare held fuel 3 cs = some x) : ∃ a : Int, okI a ∧ cs = [.int .i64 a] := by
  obtain ⟨a, e, _, w⟩ := DataW.trod_int Try.underlying3 h
  exact ⟨a, w, e⟩
theorem isPt47 : IsPt Try.prog 47 3 := ⟨⟨_, _, Try.underlying47, rfl, rfl, rfl, rfl⟩, Try.underlying3, by kernel_rfl, by kernel_rfl⟩
set_option maxRecDepth 100000 in
theorem open_psl {fuel : Nat} {cs : List Value} {x : DataW H × List MemPlace} (h : DataW.trod enc Try.prog W 0 spare held fuel 22 cs = some x) (hw : Wt Try.prog 22 x.1) :
    ∃ l : List Pt, (∀ a ∈ l, okI a.x ∧ okI a.y) ∧ l.length ≤ reachBytes ∧ ∃ v, cs = [v] ∧ Rv (allOf W) (psl l) v :=
  open_sl Try.underlying22 pxv (some 2) (fun a => okI a.x ∧ okI a.y) (fun a => ⟨_, rfl, rfl, rfl, rfl⟩) (by kernel_rfl) (of_decide_eq_true (by kernel_rfl)) (fun fuel cs x h _ => by
    obtain ⟨a, b, rfl, _, wa, wb⟩ := open_pt isPt47 h
    exact ⟨⟨a, b⟩, ⟨wa, wb⟩, rvl_ints (l := [a, b])⟩) h hw
set_option maxRecDepth 100000 in
theorem open_isl {fuel : Nat} {cs : List Value} {x : DataW H × List MemPlace} (h : DataW.trod enc Try.prog W 0 spare held fuel 23 cs = some x) (hw : Wt Try.prog 23 x.1) :
    ∃ l : List Int, (∀ a ∈ l, okI a) ∧ l.length ≤ reachBytes ∧ ∃ v, cs = [v] ∧ Rv (allOf W) (isl l) v :=
  open_sl Try.underlying23 (fun n : Int => i64 n) none okI (fun a => ⟨rfl, rfl⟩) (by kernel_rfl) (of_decide_eq_true (by kernel_rfl)) (fun fuel cs x h _ => by
    obtain ⟨a, wa, rfl⟩ := open_i64 h
    exact ⟨a, wa, rvl_ints (l := [a])⟩) h hw
set_option maxRecDepth 100000 in
/-- A chain, as the document has it. -/
theorem open_chain {fuel : Nat} {cs : List Value} {x : DataW H × List MemPlace} (h : DataW.trod enc Try.prog W 0 spare held fuel 25 cs = some x) (hw : Wt Try.prog 25 x.1) :
    ∃ (V : List Pt) (D : List Int), (∀ a ∈ V, okI a.x ∧ okI a.y) ∧ V.length ≤ reachBytes ∧ D.length ≤ reachBytes ∧ RvL (allOf W) [psl V, isl D] cs := by
  obtain ⟨y0, y1, n, rfl, hl, h0, h1⟩ := trod_struct2 Try.underlying25 h
  rw [show Try.prog.cellsOf 25 = 2 by kernel_rfl] at hl
  match cs, hl with
  | [c0, c1], _ =>
    have h0 : DataW.trod enc Try.prog W 0 spare held n 22 (List.take (Try.prog.cellsOf 22) [c0, c1]) = some y0 := h0
    have h1 : DataW.trod enc Try.prog W 0 spare held n 23 (List.take (Try.prog.cellsOf 23) [c1]) = some y1 := h1
    rw [show Try.prog.cellsOf 22 = 1 by kernel_rfl] at h0
    rw [show Try.prog.cellsOf 23 = 1 by kernel_rfl] at h1
    have hw : ∀ n ∈ DataW.weights Try.prog 25 (.agg [y0.1, y1.1]), n ≤ reachBytes := hw
    simp only [DataW.weights, Try.underlying25] at hw
    have hw : ∀ n ∈ DataW.weights Try.prog 22 y0.1 ++ (DataW.weights Try.prog 23 y1.1 ++ []), n ≤ reachBytes := hw
    obtain ⟨V, wV, lV, v0, e0, r0⟩ := open_psl h0 fun n hn => hw n (List.mem_append_left _ hn)
    obtain ⟨D, _, lD, v1, e1, r1⟩ := open_isl h1 fun n hn => hw n (List.mem_append_right _ (List.mem_append_left _ hn))
    simp at e0 e1
    subst e0; subst e1
    refine ⟨V, D, wV, lV, lD, rfl, fun j x v q1 q2 => ?_⟩
    match j with
    | 0 => simp at q1 q2; subst q1; subst q2; exact r0
    | 1 => simp at q1 q2; subst q1; subst q2; exact r1
    | j + 2 => simp at q1
set_option maxRecDepth 100000 in
theorem open_pt2 {fuel : Nat} {cs : List Value} {x : DataW H × List MemPlace} (h : DataW.trod enc Try.prog W 0 spare held fuel 28 cs = some x) :
    ∃ a b c d : Int, cs = [.int .i64 a, .int .i64 b, .int .i64 c, .int .i64 d] := by
  obtain ⟨xs, m, rfl, hx, hl, hxl, hel⟩ := DataW.trod_array Try.underlying28 h
  rw [show Try.prog.cellsOf 28 = 4 by kernel_rfl] at hl
  rw [isPt.cp] at hel
  match cs, hl, xs, hxl with
  | [c0, c1, c2, c3], _, [y0, y1], _ =>
    obtain ⟨a0, b0, e0, _⟩ := open_pt isPt (hel 0 (by decide))
    obtain ⟨a1, b1, e1, _⟩ := open_pt isPt (hel 1 (by decide))
    simp at e0 e1
    obtain ⟨rfl, rfl⟩ := e0
    obtain ⟨rfl, rfl⟩ := e1
    exact ⟨_, _, _, _, rfl⟩
set_option maxRecDepth 100000 in
theorem open_int2 {fuel : Nat} {cs : List Value} {x : DataW H × List MemPlace} (h : DataW.trod enc Try.prog W 0 spare held fuel 29 cs = some x) :
    ∃ a b : Int, cs = [.int .i64 a, .int .i64 b] := by
  obtain ⟨xs, m, rfl, hx, hl, hxl, hel⟩ := DataW.trod_array Try.underlying29 h
  rw [show Try.prog.cellsOf 29 = 2 by kernel_rfl] at hl
  rw [show Try.prog.cellsOf 3 = 1 by kernel_rfl] at hel
  match cs, hl, xs, hxl with
  | [c0, c1], _, [y0, y1], _ =>
    obtain ⟨a0, _, e0⟩ := open_i64 (hel 0 (by decide))
    obtain ⟨a1, _, e1⟩ := open_i64 (hel 1 (by decide))
    simp at e0 e1
    obtain rfl := e0
    obtain rfl := e1
    exact ⟨_, _, rfl⟩
end
theorem r1_of {h : PH} {ρ : Ro} {es : List AV} {cs : List Value} (hc : ∀ x ∈ es, x.closed0 = true) (r : RvL h es cs) : R1 h ρ (.ag es) (.agg cs.toArray) :=
  .ag _ _ r.len fun j c v h1 h2 => .of_rv (hc c (List.mem_of_getElem? h1)) (r.get j c v h1 h2)
theorem cells_agg {P : Program} {r : Reach} {b0 : Nat} {t : TypeId} {W : World} {v : Value} (hval : Value.okWide P W r b0 t v) (ht : (∃ fs, P.underlying t = some (.struct fs)) ∨ ∃ n e, P.underlying t = some (.array n e)) : ∃ cs : List Value, v = .agg cs.toArray ∧ v.cells.toList = cs := by
  unfold Value.okWide at hval
  rcases ht with ⟨fs, ht⟩ | ⟨n, e, ht⟩
  · rw [ht] at hval
    obtain ⟨cs, rfl, _⟩ := hval
    exact ⟨cs.toList, by simp, rfl⟩
  · rw [ht] at hval
    obtain ⟨cs, rfl, _⟩ := hval
    exact ⟨cs.toList, by simp, rfl⟩

theorem inI_of {a : Int} (h : okI a) : InI a := by
  have := okI_bd h
  exact ⟨by omega, by omega⟩
set_option maxRecDepth 100000 in
theorem close_lifted (os : Os) (started : os.Started) (H : Type) (enc : TypeId × Value → H) :
    ReturnsInHanded {} Try.checked os 3 .any (Rows.chainCloseSpec.pre6 enc Try.prog Try.f3 Rows.chainCloseRow.domain false) (Rows.chainCloseSpec.post enc Try.prog Try.f3 false true false false) := by
  refine returnsInHanded_of_change_sized (C := Try.checked) own started (by kernel_rfl) Try.func3
    (ChangeSpec.witness6 (enc := enc) (C := Try.checked) false ⟨#[], #[.agg #[.slice none 0 0, .slice none 0 0], .agg #[.int .i64 0, .int .i64 0, .int .i64 0, .int .i64 0], .agg #[.int .i64 0, .int .i64 0]], []⟩ 8 (by kernel_rfl) (by kernel_rfl) (by kernel_rfl) (by kernel_rfl)) ?_
  intro W base args ds gs before hval0 hW hcnd hsz _
  have hval : ∀ (j : Nat) t v, Try.f3.params[j]? = some t → args[j]? = some v → Value.okWide Try.prog W .any base t v := hval0
  have hW' := hW
  obtain ⟨p, q, hA0, hV, rfl, hfz, hnd⟩ := hW
  have hA : DataW.TrodAll enc Try.prog W 0 (fun _ => true) true Try.f3.params.toList args.toList ds p := hA0
  have hAk := hA
  rw [Try.params3] at hA hval
  obtain ⟨v0, vs0, d0, ds0, p0, q0, hargs, rfl, rfl, h0, r0⟩ := trodAll_cons hA
  obtain ⟨v1, vs1, d1, ds1, p1, q1, rfl, rfl, rfl, h1, r1⟩ := trodAll_cons r0
  obtain ⟨v2, vs2, d2, ds2, p2, q2, rfl, rfl, rfl, h2, r2⟩ := trodAll_cons r1
  obtain ⟨rfl, rfl, rfl⟩ := trodAll_nil r2
  obtain rfl : args = #[v0, v1, v2] := by cases args; simp_all
  obtain ⟨rfl, rfl⟩ := trodVars_none hV
  obtain ⟨c0, e0, g0⟩ := cells_agg (hval 0 _ v0 rfl rfl) (.inl ⟨_, Try.underlying25⟩)
  obtain ⟨c1, e1, g1⟩ := cells_agg (hval 1 _ v1 rfl rfl) (.inr ⟨_, _, Try.underlying28⟩)
  obtain ⟨c2, e2, g2⟩ := cells_agg (hval 2 _ v2 rfl rfl) (.inr ⟨_, _, Try.underlying29⟩)
  obtain ⟨n0, k0⟩ := h0
  obtain ⟨n1, k1⟩ := h1
  obtain ⟨n2, k2⟩ := h2
  rw [g0] at k0
  rw [g1] at k1
  rw [g2] at k2
  obtain ⟨V, D, wV, lV, lD, rv⟩ := open_chain k0 fun n hn => by
    have := List.all_eq_true.1 hsz n (DataW.weights_mem_each (j := 0) rfl rfl n hn)
    simpa using this
  obtain ⟨ax, ay, bx, b_y, rfl⟩ := open_pt2 k1
  obtain ⟨k, far, rfl⟩ := open_int2 k2
  have hlt := hW'.lt
  subst e0; subst e1; subst e2
  have lawR := chainClose_ret V D ⟨ax, ay⟩ ⟨bx, b_y⟩ k far (Nat.le_trans lV (by decide)) (Nat.le_trans lD (by decide)) fun q hq => ⟨inI_of (wV q hq).1, inI_of (wV q hq).2⟩
  have hcalls := calls_all Try.func3 rfl rfl (vals := [.agg c0.toArray, .agg #[.int .i64 ax, .int .i64 ay, .int .i64 bx, .int .i64 b_y], .agg #[.int .i64 k, .int .i64 far]]) W lawR rfl (fun j x v q1 q2 => by
    match j with
    | 0 =>
      simp only [List.getElem?_cons_zero, Option.some.injEq] at q1 q2
      subst q1; subst q2
      exact r1_of (fun x hx => by simp at hx; rcases hx with rfl | rfl <;> rfl) rv
    | 1 =>
      simp only [List.getElem?_cons_succ, List.getElem?_cons_zero, Option.some.injEq] at q1 q2
      subst q1; subst q2
      exact r1_ints [ax, ay, bx, b_y]
    | 2 =>
      simp only [List.getElem?_cons_succ, List.getElem?_cons_zero, Option.some.injEq] at q1 q2
      subst q1; subst q2
      exact r1_ints [k, far]
    | j + 3 => simp at q1)
  refine hcalls.mono fun e' W' ⟨he, hs⟩ => ?_
  subst he
  have hback := trod_back (enc := enc) kids full hs (ts := Try.f3.params.toList) (by rw [Try.params3]; decide +kernel) hAk (fun p hp => hlt p (List.mem_append_left _ hp))
  exact ⟨_, rfl, ⟨_, _, _, [], _, [], hW', trodAll_cons_mk (shut_bool Try.underlying4 _) trodAll_mk0, hback, rfl, hs.kept _, fun h => by cases h⟩⟩

theorem close_over : Rows.chainCloseRow.holds Try.pinned (OpenSpec.ofChange Rows.chainCloseSpec) :=
  OpenClaim.holds_of_wide 3 Try.f3 rfl rfl rfl rfl rfl rfl rfl ⟨rfl, rfl, rfl, rfl, rfl⟩ rfl rfl rfl rfl rfl (by kernel_rfl) Try.func3 (by kernel_rfl)
    (of_decide_eq_true (by kernel_rfl)) (by unfold Func.isWrapper; first | (rw [if_pos (by decide +kernel)]; kernel_rfl) | (rw [if_neg (by decide +kernel)]; exact ⟨rfl, rfl⟩))
    (fun os started H enc _ => close_lifted os started H enc)

theorem chainClose : Rows.ChainCloseSaid := close_over

#print axioms chainClose
end Go.Proofs.Ytllaijapijinoaa

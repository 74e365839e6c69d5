/- A decimal as plain data, opened to its fields. -/
import Derived.Test.YtjkfpbfimcpoeaaGreatDoorAsk
section
set_option linter.unusedSimpArgs false
set_option linter.unusedVariables false
namespace Go.Proofs.YtjkfpbfimcpoeaaGreatDoor
open Go.ChangeShapes Go.WideShapes Go.ChangeAt Go.RowKit Go.Joins Go.Deep
set_option linter.unusedVariables false
set_option maxRecDepth 100000
/-- Num, opened. -/
theorem open_num {H : Type} {enc : TypeId × Value → H} {W : World} {r : Reach} {b0 : Nat} {v : Value} {d : DataW H} {p : List MemPlace} (hv : Value.okWide Tryz.prog W r b0 70 v) (h : DataW.Trod enc Tryz.prog W 0 (fun _ => true) true 70 v d p) :
    ∃ a len cap l b z, v = .agg #[.slice a len cap, .bool b, .int .u8 z] ∧ TryzE.RowAt W a len cap l ∧ 0 ≤ z ∧ z < 256 := by
  obtain ⟨cs, n, rfl, hl, hf⟩ := open_fields Tryz.underlying70 (by kernel_rfl) (by kernel_rfl) hv h
  obtain ⟨c0, y0, g0, h0⟩ := hf 0 _ rfl
  obtain ⟨c1, y1, g1, h1⟩ := hf 1 _ rfl
  obtain ⟨c2, y2, g2, h2⟩ := hf 2 _ rfl
  obtain ⟨a, len, cap, l, rfl, hrow⟩ := open_limbs h0
  obtain ⟨b, e1, _⟩ := DataW.trod_bool Tryz.underlying4 h1
  obtain ⟨z, e2, _, w2⟩ := DataW.trod_int Tryz.underlying5 h2
  have e1 : c1 = .bool b := by simpa using e1
  have e2 : c2 = .int .u8 z := by simpa using e2
  subst e1; subst e2
  have hz : 0 ≤ z ∧ z < 256 := by
    have e1 : IntKind.u8.min = 0 := rfl
    have e2 : IntKind.u8.max = 255 := rfl
    simp only [Lit.wf, Bool.and_eq_true, decide_eq_true_eq] at w2
    omega
  refine ⟨a, len, cap, l, b, z, ?_, hrow, hz.1, hz.2⟩
  have hl3 : cs.length = 3 := hl
  match cs, hl3 with
  | [_, _, _], _ =>
    have k0 := Option.some.inj g0
    have k1 := Option.some.inj g1
    have k2 := Option.some.inj g2
    subst k0; subst k1; subst k2
    rfl
/-- Num, as the evaluator has it. -/
theorem num_rel {w : World} {a : Option Addr} {len cap : Nat} {l : List Int} {b : Bool} {z : Int} (h : TryzE.RowAt w a len cap l) {ok : Nat → Prop} (hok : ∀ k, TryzE.okOf a l k → ok k) :
    Go.Eng.PlainA w ok (.agg [.sl (.int .u64) l, .bool b, .int .u8 z]) (.agg #[.slice a len cap, .bool b, .int .u8 z]) := by
  refine ⟨⟨[.slice a len cap, .bool b, .int .u8 z], rfl, rfl, fun j p v hj hv => ?_⟩, rfl⟩
  match j, hj, hv with
  | 0, hj, hv => injection hj with hj; injection hv with hv; subst hj; subst hv; exact h.rel hok
  | 1, hj, hv => injection hj with hj; injection hv with hv; subst hj; subst hv; rfl
  | 2, hj, hv => injection hj with hj; injection hv with hv; subst hj; subst hv; rfl
  | j + 3, hj, hv => simp at hj
end Go.Proofs.YtjkfpbfimcpoeaaGreatDoor
end

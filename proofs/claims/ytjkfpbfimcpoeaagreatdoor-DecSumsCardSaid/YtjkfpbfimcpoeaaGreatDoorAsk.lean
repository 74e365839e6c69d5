/- A law's argument, a struct, opened to its fields. -/
import Derived.Test.YtjkfpbfimcpoeaaGreatDoorLib
import Derived.Test.YtjkfpbfimcpoeaaGreatDoorPlnC
import Derived.Test.YtjkfpbfimcpoeaaGreatDoorCards
import Derived.Test.YtjkfpbfimcpoeaaGreatDoorTie
import Derived.ProofKit
import Derived.OpenShut
import Derived.LaidMore
import Derived.Lay
import Derived.SevenTiedAt
import Derived.Stop.Joined
import Derived.SizedLaws
import Derived.ChangeSlices
import Derived.ChangeOld
import Derived.Lib.SmallJoins
section
set_option linter.unusedSimpArgs false
set_option linter.unusedVariables false
namespace Go.Proofs.YtjkfpbfimcpoeaaGreatDoor
open Go.ChangeShapes Go.WideShapes Go.ChangeAt Go.RowKit Go.Joins Go.Deep
set_option linter.unusedVariables false
set_option maxRecDepth 100000
theorem own : ownKnob Tryz.prog.godebug = none := by kernel_rfl
theorem laidOut : laidOutB Tryz.prog = true := by kernel_rfl
/-- A struct of one-cell fields, opened, whatever the number of its fields. -/
theorem open_fields {H : Type} {enc : TypeId × Value → H} {P : Program} {w : World} {base : Nat} {spare : Nat → Bool} {held : Bool} {r : Reach} {b0 : Nat} {t : TypeId} {fs : Array Field} {v : Value} {d : DataW H} {p : List MemPlace}
    (hs : P.underlying t = some (.struct fs)) (hone : oneCellFields P fs = true) (hC : P.cellsOf t = fs.size) (hv : Value.okWide P w r b0 t v) (h : DataW.Trod enc P w base spare held t v d p) :
    ∃ (cs : List Value) (n : Nat), v = .agg cs.toArray ∧ cs.length = fs.size ∧ ∀ (j : Nat) (f : Field), fs[j]? = some f → ∃ (c : Value) (y : DataW H × List MemPlace), cs[j]? = some c ∧ DataW.trod enc P w base spare held n f.type [c] = some y := by
  obtain ⟨cs, rfl, hsz⟩ := okWide_struct hs hv
  obtain ⟨fuel, hf⟩ := h
  obtain ⟨xs, n, _, _, hlen, hxl, hat⟩ := DataW.trod_struct hs hf
  refine ⟨cs.toList, n, by simp, by simpa using hsz.trans hC, fun j f hj => ?_⟩
  have hjl : j < fs.size := (Array.getElem?_eq_some_iff.1 hj).1
  obtain ⟨ho, hk⟩ := hone_of hone j f hj
  have h1 := hat j f hj
  have hcl : (Value.agg cs).cells.toList = cs.toList := by simp [Value.cells]
  rw [ho, hk, hcl] at h1
  have hj' : j < cs.toList.length := by simp; omega
  rw [List.drop_eq_getElem_cons hj'] at h1
  have hx : j < xs.length := by omega
  refine ⟨cs.toList[j], xs[j], List.getElem?_eq_getElem hj', ?_⟩
  rw [← List.getElem?_eq_getElem hx, ← h1]
  rfl
/-- A field that is a row of limbs. -/
theorem open_limbs {H : Type} {enc : TypeId × Value → H} {W : World} {n : Nat} {c : Value} {y : DataW H × List MemPlace} (h : DataW.trod enc Tryz.prog W 0 (fun _ => true) true n 22 [c] = some y) :
    ∃ a len cap l, c = .slice a len cap ∧ TryzE.RowAt W a len cap l := by
  rcases open_ints Tryz.underlying22 Tryz.underlying121 (by kernel_rfl) h with ⟨hcs, _⟩ | ⟨x, len, cap, zs, hcs, _, hl, hm, hz, hx, hcell, hwz⟩
  · have hcs : c = .slice none 0 0 := by simpa using hcs
    subst hcs
    exact ⟨none, 0, 0, [], rfl, ⟨rfl, Nat.le_refl _, by simp, fun h => absurd rfl h⟩⟩
  · have hcs : c = .slice (some x) len cap := by simpa using hcs
    subst hcs
    have hz : zs.length = cap := by simpa using hz
    refine ⟨some x, len, cap, zs.take len, rfl, ⟨by simp; omega, hl, fun x hx => ?_, fun hne => ⟨x, rfl, ?_, fun i hi => ?_⟩⟩⟩
    · have h9 := hwz x (List.mem_of_mem_take hx)
      have e1 : IntKind.u64.min = 0 := rfl
      have e2 : IntKind.u64.max = 18446744073709551615 := rfl
      simp only [Lit.wf, Bool.and_eq_true, decide_eq_true_eq] at h9
      omega
    · have hlen : 0 < (zs.take len).length := List.length_pos_iff.2 hne
      have h00 := hcell 0 (by simp at hlen; omega)
      have e0 : x.add 0 = x := rfl
      rw [e0] at h00
      rcases Nat.lt_or_ge x.block W.heap.size with h | h
      · exact h
      · simp [World.cell?, Array.getElem?_eq_none h] at h00
    · have hi : i < len := by simp at hi; omega
      rw [hcell i (by omega)]
      simp [List.getD, hi]
/-- Ask, opened. -/
theorem open_ask {H : Type} {enc : TypeId × Value → H} {W : World} {r : Reach} {b0 : Nat} {v : Value} {d : DataW H} {p : List MemPlace} (hv : Value.okWide Tryz.prog W r b0 24 v) (h : DataW.Trod enc Tryz.prog W 0 (fun _ => true) true 24 v d p) :
    ∃ a len cap l b t x y z, v = .agg #[.slice a len cap, .bool b, .string t, .int .i64 x, .int .i64 y, .int .i64 z] ∧ TryzE.RowAt W a len cap l ∧ (Lit.int .i64 x).wf = true ∧ (Lit.int .i64 y).wf = true ∧ (Lit.int .i64 z).wf = true ∧ t.size ≤ maxLen := by
  obtain ⟨cs, n, rfl, hl, hf⟩ := open_fields Tryz.underlying24 (by kernel_rfl) (by kernel_rfl) hv h
  obtain ⟨c0, y0, g0, h0⟩ := hf 0 _ rfl
  obtain ⟨c1, y1, g1, h1⟩ := hf 1 _ rfl
  obtain ⟨c2, y2, g2, h2⟩ := hf 2 _ rfl
  obtain ⟨c3, y3, g3, h3⟩ := hf 3 _ rfl
  obtain ⟨c4, y4, g4, h4⟩ := hf 4 _ rfl
  obtain ⟨c5, y5, g5, h5⟩ := hf 5 _ rfl
  obtain ⟨a, len, cap, l, rfl, hrow⟩ := open_limbs h0
  obtain ⟨b, e1, _⟩ := DataW.trod_bool Tryz.underlying4 h1
  obtain ⟨t, e2, _, w2⟩ := DataW.trod_string Tryz.underlying9 h2
  obtain ⟨x, e3, _, w3⟩ := DataW.trod_int Tryz.underlying3 h3
  obtain ⟨y, e4, _, w4⟩ := DataW.trod_int Tryz.underlying3 h4
  obtain ⟨z, e5, _, w5⟩ := DataW.trod_int Tryz.underlying3 h5
  have e1 : c1 = .bool b := by simpa using e1
  have e2 : c2 = .string t := by simpa using e2
  have e3 : c3 = .int .i64 x := by simpa using e3
  have e4 : c4 = .int .i64 y := by simpa using e4
  have e5 : c5 = .int .i64 z := by simpa using e5
  subst e1; subst e2; subst e3; subst e4; subst e5
  refine ⟨a, len, cap, l, b, t, x, y, z, ?_, hrow, w3, w4, w5, w2⟩
  have hl6 : cs.length = 6 := hl
  match cs, hl6 with
  | [_, _, _, _, _, _], _ =>
    have k0 := Option.some.inj g0
    have k1 := Option.some.inj g1
    have k2 := Option.some.inj g2
    have k3 := Option.some.inj g3
    have k4 := Option.some.inj g4
    have k5 := Option.some.inj g5
    subst k0; subst k1; subst k2; subst k3; subst k4; subst k5
    rfl
/-- Ask, as the evaluator has it. -/
theorem ask_rel {w : World} {a : Option Addr} {len cap : Nat} {l : List Int} {b : Bool} {t : ByteArray} {x y z : Int} (h : TryzE.RowAt w a len cap l) {ok : Nat → Prop} (hok : ∀ k, TryzE.okOf a l k → ok k) :
    Go.Eng.PlainA w ok (.agg [.sl (.int .u64) l, .bool b, .str t, .int .i64 x, .int .i64 y, .int .i64 z]) (.agg #[.slice a len cap, .bool b, .string t, .int .i64 x, .int .i64 y, .int .i64 z]) := by
  refine ⟨⟨[.slice a len cap, .bool b, .string t, .int .i64 x, .int .i64 y, .int .i64 z], rfl, rfl, fun j p v hj hv => ?_⟩, rfl⟩
  match j, hj, hv with
  | 0, hj, hv => injection hj with hj; injection hv with hv; subst hj; subst hv; exact h.rel hok
  | 1, hj, hv => injection hj with hj; injection hv with hv; subst hj; subst hv; rfl
  | 2, hj, hv => injection hj with hj; injection hv with hv; subst hj; subst hv; rfl
  | 3, hj, hv => injection hj with hj; injection hv with hv; subst hj; subst hv; rfl
  | 4, hj, hv => injection hj with hj; injection hv with hv; subst hj; subst hv; rfl
  | 5, hj, hv => injection hj with hj; injection hv with hv; subst hj; subst hv; rfl
  | j + 6, hj, hv => simp at hj
end Go.Proofs.YtjkfpbfimcpoeaaGreatDoor
end

/- DigitsPow: whatever limbs and whatever count: the call returns true, and its arguments read as before. Conditions: the row's own; the two tables of the library that it lists are tied to the program's text (given). The card speaks of the pruned copy of the project. -/
import Derived.Test.YtndiihpgbdnllaaDoorCards
import Derived.Test.YtndiihpgbdnllaaDoorTie
import Derived.ProofKit
import Derived.OpenShut
import Derived.LaidMore
import Derived.Lay
import Derived.SevenTiedAt
import Derived.Stop.Joined
import Derived.SizedLaws
import Derived.ChangeSlices
import Derived.ChangeOld
import Derived.Test.YtndiihpgbdnllaaDoorLib
namespace Go.Proofs.YtndiihpgbdnllaaDoor.DigitsPow
open Go.ChangeShapes Go.WideShapes Go.ChangeAt Go.RowKit
set_option linter.unusedVariables false
theorem own : ownKnob Tryd.prog.godebug = none := by kernel_rfl
theorem laidOut : laidOutB Tryd.prog = true := by kernel_rfl
/-- What an argument of whole numbers reads as: no longer than its weight allows; its cells. -/
theorem ints_arg {H : Type} {enc : TypeId × Value → H} {W : World} {a : Option Addr} {len cap : Nat} {d : DataW H} {ps : List MemPlace} {ts : List TypeId} {ds : List (DataW H)} {j : Nat}
    (hsz : (DataW.weightsEach Tryd.prog ts ds).all (· ≤ reachBytes) = true) (ht : ts[j]? = some 22) (hd : ds[j]? = some d)
    (h : DataW.Trod enc Tryd.prog W 0 (fun _ => true) true 22 (.slice a len cap) d ps) :
    len < 17592186044417 ∧ len ≤ cap ∧ ∃ l : List Int, l.length = len ∧ (∀ x ∈ l, 0 ≤ x ∧ x < 18446744073709551616) ∧ (l ≠ [] → ∃ x, a = some x ∧ ∀ i, i < l.length → W.cell? (x.add i) = some (.int .u64 (l.getD i 0))) := by
  obtain ⟨fuel, hf⟩ := h
  rcases open_ints Tryd.underlying22 Tryd.underlying55 (by kernel_rfl) hf with ⟨hcs, _⟩ | ⟨x, n, c, zs, hcs, _, hl, hm, hz, hx, hcell, hwz⟩
  · simp [Value.cells] at hcs
    obtain ⟨rfl, rfl, rfl⟩ := hcs
    exact ⟨by decide, Nat.le_refl _, [], rfl, by simp, fun h => absurd rfl h⟩
  · simp [Value.cells] at hcs
    obtain ⟨rfl, rfl, rfl⟩ := hcs
    have hz : zs.length = cap := by simpa using hz
    obtain ⟨hx, _⟩ := Prod.mk.inj hx
    subst hx
    have z := sized_slice hsz ht hd Tryd.underlying22
    have h8 : Tryd.prog.bytesOf 55 = 8 := by kernel_rfl
    rw [h8] at z
    have h1 : (lits (H := H) .u64 (zs.take len)).length + (lits (H := H) .u64 (zs.drop len)).length = zs.length := by
      simp [lits]; omega
    rw [h1] at z
    have hr : reachBytes < 2 ^ 47 := reachBytes_lt
    refine ⟨by omega, hl, zs.take len, by simp; omega, fun x hx => ?_, fun _ => ⟨x, rfl, fun i hi => ?_⟩⟩
    · have h9 := hwz x (List.mem_of_mem_take hx)
      have e1 : IntKind.u64.min = 0 := rfl
      have e2 : IntKind.u64.max = 18446744073709551615 := rfl
      simp only [Lit.wf, Bool.and_eq_true, decide_eq_true_eq] at h9
      omega
    · have hi : i < len := by simp at hi; omega
      rw [hcell i (by omega)]
      simp [List.getD, hi]
set_option maxRecDepth 100000 in
theorem lifted (os : Os) (started : os.Started) (H : Type) (enc : TypeId × Value → H) :
    ReturnsInHanded {} Tryd.checked os 3 .any (fun w args => (Rows.digitsPowSpec.pre enc Tryd.prog Tryd.f3 Rows.digitsPowRow.domain false w args ∧ laidMetH Tryd.prog Rows.digitsPowRow.laid w) ∧ sizedMet enc Tryd.prog Tryd.f3 (OpenSpec.ofChange Rows.digitsPowSpec) false w args)
      (Rows.digitsPowSpec.post enc Tryd.prog Tryd.f3 false true false false) := by
  refine returnsInHanded_of_change_and (C := Tryd.checked) (X := fun w _ => laidMetH Tryd.prog Rows.digitsPowRow.laid w) (fun _ _ _ hh h => h.of_heap hh) own started (by kernel_rfl) Tryd.func3
    (ChangeSpec.witness_shaped (enc := enc) (C := Tryd.checked) (os := os) (X := fun w _ => laidMetH Tryd.prog Rows.digitsPowRow.laid w) false (World.laidAll Tryd.prog os Rows.digitsPowRow.laid) #[.slice none 0 0, .int .i64 0] 8 (World.laidAll_os _ _ _)
      (World.shaped_of_ZipB (by kernel_rfl) (by kernel_rfl)) (by kernel_rfl) (by kernel_rfl) (by kernel_rfl)
      (by rw [MakeChecks.laidMetH_plain _ _ _ (by kernel_rfl)]; exact laidMet_laidAll _ (by kernel_rfl) (by kernel_rfl))) ?_
  intro W base args ds gs before hval0 hW hc hsz0 hL _
  have hsz : (DataW.weightsEach Tryd.prog (Tryd.f3.params.toList ++ Rows.digitsPowSpec.plain.varTypes Tryd.prog) (ds ++ gs)).all (· ≤ reachBytes) = true := hsz0
  have hval : ∀ (j : Nat) t v, Tryd.f3.params[j]? = some t → args[j]? = some v → Value.okWide Tryd.prog W .any base t v := hval0
  have hW' := hW
  obtain ⟨p, q, hA0, hV, rfl, hfz, hnd⟩ := hW
  have hA : DataW.TrodAll enc Tryd.prog W 0 (fun _ => true) true Tryd.f3.params.toList args.toList ds p := hA0
  rw [Tryd.params3] at hA hval hsz
  obtain ⟨v0, vs0, d0, ds0, p0, q0, hargs, rfl, rfl, h0, r0⟩ := trodAll_cons hA
  obtain ⟨v1, vs1, d1, ds1, p1, q1, rfl, rfl, rfl, h1, r1⟩ := trodAll_cons r0
  obtain ⟨rfl, rfl, rfl⟩ := trodAll_nil r1
  obtain rfl : args = #[v0, v1] := by cases args; simp_all
  obtain ⟨rfl, rfl⟩ := trodVars_none hV
  obtain ⟨a0, len0, cap0, rfl⟩ := okWide_slice Tryd.underlying22 (hval 0 22 v0 rfl rfl)
  have k0 := h0
  have lt0 : ∀ x ∈ p0, x.block < W.heap.size := by obtain ⟨m, hm⟩ := k0; exact DataW.trod_lt m _ _ _ hm
  obtain ⟨b0, c0, l, hl, hr, hcells⟩ := ints_arg hsz (j := 0) rfl rfl h0
  obtain ⟨n, rfl, rfl, rfl, w1⟩ := open_int Tryd.underlying3 (hval 1 3 v1 rfl rfl) h1
  clear hA0 hval0 hsz0 hsz
  refine (TrydE.law_calls a0 len0 cap0 l n W hl c0 hr b0 (fun hne => ?_)).mono fun e W' ⟨he, bel⟩ => ?_
  · obtain ⟨x, hx, hcell⟩ := hcells hne
    refine ⟨x, hx, ?_, hcell⟩
    have h00 := hcell 0 (List.length_pos_iff.2 hne)
    have e0 : x.add 0 = x := rfl
    rw [e0] at h00
    rcases Nat.lt_or_ge x.block W.heap.size with h | h
    · exact h
    · simp [World.cell?, Array.getElem?_eq_none h] at h00
  subst he
  exact ⟨_, rfl, _, _, _, [], _, [], hW', trodAll_mk1 (shut_bool Tryd.underlying4 _), (trodAll_cons_mk (Below.trod laidOut (by kernel_rfl) (of_decide_eq_true (by kernel_rfl)) k0 bel lt0) (trodAll_cons_mk (shut_int Tryd.underlying3 w1) trodAll_mk0)), rfl, bel.frame _, fun h => by cases h⟩
theorem over : Rows.digitsPowRow.holds Tryd.pinned (OpenSpec.ofChange Rows.digitsPowSpec) :=
  OpenClaim.holds_of_wide 3 Tryd.f3 rfl rfl rfl rfl rfl rfl rfl ⟨rfl, rfl, rfl, rfl, rfl⟩ rfl rfl rfl rfl rfl (by kernel_rfl) Tryd.func3 (by kernel_rfl)
    (of_decide_eq_true (by kernel_rfl)) (by unfold Func.isWrapper; first | (rw [if_pos (by decide +kernel)]; kernel_rfl) | (rw [if_neg (by decide +kernel)]; exact ⟨rfl, rfl⟩))
    (fun os started H enc _ => lifted os started H enc)
theorem card_holds : Rows.DigitsPowCardSaid :=
  Claim7.holds_tied_plain_at .later [] [.data, .pinned] true (true, "e79e40064e690aa2eedaa45cc681218206e4672ed92b7fdddad4f522761d9e0f") false
    over (fun _ h => by cases h) (by kernel_rfl) (fun _ h => by cases h) digitsPow_row_tie rfl ⟨rfl, rfl⟩ (by kernel_rfl) rfl
    (fun f fn hf hfn => by
      obtain rfl : f = 3 := Option.some.inj ((show Tryd.prog.funcNamed "chattel/chattellaw03.DigitsPow" = some 3 by kernel_rfl).symm.trans hf) |>.symm
      obtain rfl : fn = Tryd.f3 := (Option.some.inj (Tryd.func3.symm.trans hfn)).symm
      exact ⟨by kernel_rfl, fun j t ht => by
        rw [Tryd.params3] at ht
        have hm : t ∈ [22, 3] := by simpa using Array.mem_of_getElem? ht
        have hall : ([22, 3].all fun u => !Tryd.prog.wantsStandIn u) = true := by kernel_rfl
        exact (show Tryd.prog.wantsStandIn t = false by simpa using List.all_eq_true.1 hall t hm)⟩)
    (by kernel_rfl)
end Go.Proofs.YtndiihpgbdnllaaDoor.DigitsPow
namespace Go.Proofs.YtndiihpgbdnllaaDoor
theorem digitsPow_holds : Rows.DigitsPowCardSaid := DigitsPow.card_holds
#print axioms digitsPow_holds
end Go.Proofs.YtndiihpgbdnllaaDoor

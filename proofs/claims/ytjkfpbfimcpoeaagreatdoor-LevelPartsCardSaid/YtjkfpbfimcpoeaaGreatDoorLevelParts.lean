/- LevelParts: whatever the amount, its sign, its rate and counts: the call returns true, and its argument reads as before. Conditions: the row's own; the two tables of the library that it lists are tied to the program's text (given). The card speaks of the pruned copy of the project. -/
import Derived.Test.YtjkfpbfimcpoeaaGreatDoorAsk
import Derived.Test.YtjkfpbfimcpoeaaGreatDoorPlnD
namespace Go.Proofs.YtjkfpbfimcpoeaaGreatDoor.LevelParts
open Go.ChangeShapes Go.WideShapes Go.ChangeAt Go.RowKit
set_option linter.unusedVariables false
set_option maxRecDepth 100000 in
theorem lifted (os : Os) (started : os.Started) (H : Type) (enc : TypeId × Value → H) :
    ReturnsInHanded {} Tryz.checked os 4 .any (fun w args => (Rows.levelPartsSpec.pre enc Tryz.prog Tryz.f4 Rows.levelPartsRow.domain false w args ∧ laidMetH Tryz.prog Rows.levelPartsRow.laid w) ∧ sizedMet enc Tryz.prog Tryz.f4 (OpenSpec.ofChange Rows.levelPartsSpec) false w args)
      (Rows.levelPartsSpec.post enc Tryz.prog Tryz.f4 false true false false) := by
  refine returnsInHanded_of_change_and (C := Tryz.checked) (X := fun w _ => laidMetH Tryz.prog Rows.levelPartsRow.laid w) (fun _ _ _ hh h => h.of_heap hh) own started (by kernel_rfl) Tryz.func4
    (ChangeSpec.witness_shaped (enc := enc) (C := Tryz.checked) (os := os) (X := fun w _ => laidMetH Tryz.prog Rows.levelPartsRow.laid w) false (World.laidAll Tryz.prog os Rows.levelPartsRow.laid) #[.agg #[.slice none 0 0, .bool false, .string .empty, .int .i64 0, .int .i64 0, .int .i64 0]] 8 (World.laidAll_os _ _ _)
      (World.shaped_of_ZipB (by kernel_rfl) (by kernel_rfl)) (by kernel_rfl) (by kernel_rfl) (by kernel_rfl)
      (by rw [MakeChecks.laidMetH_plain _ _ _ (by kernel_rfl)]; exact laidMet_laidAll _ (by kernel_rfl) (by kernel_rfl))) ?_
  intro W base args ds gs before hval0 hW hc hsz0 hL _
  have hval : ∀ (j : Nat) t v, Tryz.f4.params[j]? = some t → args[j]? = some v → Value.okWide Tryz.prog W .any base t v := hval0
  have hW' := hW
  obtain ⟨p, q, hA0, hV, rfl, hfz, hnd⟩ := hW
  have hA : DataW.TrodAll enc Tryz.prog W 0 (fun _ => true) true Tryz.f4.params.toList args.toList ds p := hA0
  rw [Tryz.params4] at hA hval
  obtain ⟨v0, vs0, d0, ds0, p0, q0, hargs, rfl, rfl, h0, r0⟩ := trodAll_cons hA
  obtain ⟨rfl, rfl, rfl⟩ := trodAll_nil r0
  obtain rfl : args = #[v0] := by cases args; simp_all
  obtain ⟨rfl, rfl⟩ := trodVars_none hV
  have k0 := h0
  have lt0 : ∀ x ∈ p0, x.block < W.heap.size := by obtain ⟨m, hm⟩ := k0; exact DataW.trod_lt m _ _ _ hm
  obtain ⟨a, len, cap, l, b, t, x, y, z, rfl, hrow, _, _, _, _⟩ := open_ask (hval 0 24 v0 rfl rfl) h0
  clear hA0 hval0 hsz0
  refine (TryzE.calls_true (fn := Tryz.f4) (c := Tryz.f4.body.get!) (ok := TryzE.okOf a l) (vs := [.agg #[.slice a len cap, .bool b, .string t, .int .i64 x, .int .i64 y, .int .i64 z]]) (by kernel_rfl) (by kernel_rfl) (by kernel_rfl)
    (TryzE.levelParts_true l b t x y z (fun d hd => hrow.dg d hd)) ⟨⟨ask_rel hrow (fun _ h => h), rfl⟩, (by intro j j' s s' g o c e o' c' e' h; simp at h), hrow.lt⟩).mono fun e W' ⟨he, bel⟩ => ?_
  subst he
  exact ⟨_, rfl, _, _, _, [], _, [], hW', trodAll_mk1 (shut_bool Tryz.underlying4 _), (trodAll_cons_mk (Below.trod laidOut (by kernel_rfl) (of_decide_eq_true (by kernel_rfl)) k0 bel lt0) trodAll_mk0), rfl, bel.frame _, fun h => by cases h⟩
theorem over : Rows.levelPartsRow.holds Tryz.pinned (OpenSpec.ofChange Rows.levelPartsSpec) :=
  OpenClaim.holds_of_wide 4 Tryz.f4 rfl rfl rfl rfl rfl rfl rfl ⟨rfl, rfl, rfl, rfl, rfl⟩ rfl rfl rfl rfl rfl (by kernel_rfl) Tryz.func4 (by kernel_rfl)
    (of_decide_eq_true (by kernel_rfl)) (by unfold Func.isWrapper; first | (rw [if_pos (by decide +kernel)]; kernel_rfl) | (rw [if_neg (by decide +kernel)]; exact ⟨rfl, rfl⟩))
    (fun os started H enc _ => lifted os started H enc)
theorem card_holds : Rows.LevelPartsCardSaid :=
  Claim7.holds_tied_plain_at .later [] [.data, .pinned] true (true, "587cb80cd3a1e5359e53536d3a58e47a811d5ac1a22ba3e8be5388ea73089121") false
    over (fun _ h => by cases h) (by kernel_rfl) (fun _ h => by cases h) levelParts_row_tie rfl ⟨rfl, rfl⟩ (by kernel_rfl) rfl
    (fun f fn hf hfn => by
      obtain rfl : f = 4 := Option.some.inj ((show Tryz.prog.funcNamed "chattel/chattellaw16.LevelParts" = some 4 by kernel_rfl).symm.trans hf) |>.symm
      obtain rfl : fn = Tryz.f4 := (Option.some.inj (Tryz.func4.symm.trans hfn)).symm
      exact ⟨by kernel_rfl, fun j t ht => by
        rw [Tryz.params4] at ht
        have hm : t ∈ [24] := by simpa using Array.mem_of_getElem? ht
        have hall : ([24].all fun u => !Tryz.prog.wantsStandIn u) = true := by kernel_rfl
        exact (show Tryz.prog.wantsStandIn t = false by simpa using List.all_eq_true.1 hall t hm)⟩)
    (by kernel_rfl)
end Go.Proofs.YtjkfpbfimcpoeaaGreatDoor.LevelParts
namespace Go.Proofs.YtjkfpbfimcpoeaaGreatDoor
theorem levelParts_holds : Rows.LevelPartsCardSaid := LevelParts.card_holds
#print axioms levelParts_holds
end Go.Proofs.YtjkfpbfimcpoeaaGreatDoor

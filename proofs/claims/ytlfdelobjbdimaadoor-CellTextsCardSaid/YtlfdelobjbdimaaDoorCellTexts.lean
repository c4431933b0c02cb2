/-
  The law CellTexts, proved: two texts stand as their bytes do; a text and a number stand as the number's text does. For every input; the tables that the row lists are tied, and not read.
-/
import Derived.Test.YtlfdelobjbdimaaDoorCelJ
import Derived.Test.YtlfdelobjbdimaaDoorStrO
import Derived.Test.YtlfdelobjbdimaaDoorDecY
import Derived.Test.YtlfdelobjbdimaaDoorTie
import Derived.Test.YtlfdelobjbdimaaDoorCards
import Derived.LaidMore
import Derived.Lay
import Derived.SevenTiedAt
import Derived.Stop.Joined
namespace Go.Proofs.YtlfdelobjbdimaaDoor
set_option linter.unusedSimpArgs false
set_option linter.unusedVariables false
open Go.ChangeShapes Go.WideShapes Go.ChangeAt Go.RowKit Go.Joins

theorem args_of_three {P : Program} {role : Nat → Role} {w : World} {a b c : Value} {d d' d'' : D} (h : Rd P role w a d) (k : Rd P role w b d') (l : Rd P role w c d'') (i : Nat) (y : Value) (e : D) (hy : #[a, b, c][i]? = some y) (he : [d, d', d''][i]? = some e) : Rd P role w y e := by
  match i with
  | 0 => simp at hy he; subst hy; subst he; exact h
  | 1 => simp at hy he; subst hy; subst he; exact k
  | 2 => simp at hy he; subst hy; subst he; exact l
  | i + 3 => simp at he
set_option maxRecDepth 100000 in
theorem texts_lifted (os : Os) (started : os.Started) (H : Type) (enc : TypeId × Value → H) :
    ReturnsInHanded {} Tryd.checked os 5 .any (fun w args => (Rows.cellTextsSpec.pre enc Tryd.prog Tryd.f5 Rows.cellTextsRow.domain false w args ∧ laidMetH Tryd.prog Rows.cellTextsRow.laid w) ∧ sizedMet enc Tryd.prog Tryd.f5 (OpenSpec.ofChange Rows.cellTextsSpec) false w args)
      (Rows.cellTextsSpec.post enc Tryd.prog Tryd.f5 false true false false) := by
  refine returnsInHanded_of_change_and (C := Tryd.checked) (X := fun w _ => laidMetH Tryd.prog Rows.cellTextsRow.laid w) (fun _ _ _ hh h => h.of_heap hh) dec_own started (by kernel_rfl) Tryd.func5
    (ChangeSpec.witness_shaped (enc := enc) (C := Tryd.checked) (os := os) (X := fun w _ => laidMetH Tryd.prog Rows.cellTextsRow.laid w) false (World.laidAll Tryd.prog os Rows.cellTextsRow.laid) #[.string ⟨#[]⟩, .string ⟨#[]⟩, .agg #[.bool false, .int .u64 0, .int .u64 0]] 8 (World.laidAll_os _ _ _)
      (World.shaped_of_ZipB (by kernel_rfl) (by kernel_rfl)) (by kernel_rfl) (by kernel_rfl) (by kernel_rfl)
      (by rw [MakeChecks.laidMetH_plain _ _ _ (by kernel_rfl)]; exact laidMet_laidAll _ (by kernel_rfl) (by kernel_rfl))) ?_
  intro W base args ds gs before hval0 hW _ _ _ _
  have hval : ∀ (j : Nat) t v, Tryd.f5.params[j]? = some t → args[j]? = some v → Value.okWide Tryd.prog W .any base t v := hval0
  have hW' := hW
  obtain ⟨p, q, hA0, hV, rfl, _, _⟩ := hW
  have hA : DataW.TrodAll enc Tryd.prog W 0 (fun _ => true) true Tryd.f5.params.toList args.toList ds p := hA0
  rw [Tryd.params5] at hA hval
  obtain ⟨v0, v1, v2, d0, d1, d2, p0, p1, p2, rfl, rfl, rfl, h0, h1, h2⟩ := trodAll_three hA
  obtain ⟨rfl, rfl⟩ := trodVars_none hV
  obtain ⟨t, rfl, rfl, rfl, wt⟩ := open_string Tryd.underlying9 (hval 0 9 v0 rfl rfl) h0
  obtain ⟨u, rfl, rfl, rfl, wu⟩ := open_string Tryd.underlying9 (hval 1 9 v1 rfl rfl) h1
  obtain ⟨s0', m0, rfl, rfl, rfl, b0⟩ := dec_open (hval 2 24 v2 rfl rfl) h2
  simp only [List.append_nil] at hW'
  refine (calls_of_ps Tryd.func5 (by kernel_rfl) rfl (ct_ps s0' _ _ t u) rfl (fun role w => args_of_three (.v rfl) (.v rfl) (rd_decA _ _ _ s0' b0)) W).mono fun e W' ⟨he, hx⟩ => ?_
  subst he
  exact ⟨_, rfl, _, _, _, [], [], [], hW', trodAll_mk1 (shut_bool Tryd.underlying4 _), trodAll_mk3 (shut_string Tryd.underlying9 wt) (shut_string Tryd.underlying9 wu) (dec_shut _ _ s0' m0 b0), rfl, Below.frame hx _, fun h => by cases h⟩

theorem texts_holds : Rows.CellTextsSaid :=
  OpenClaim.holds_of_wide 5 Tryd.f5 rfl rfl rfl rfl rfl rfl rfl ⟨rfl, rfl, rfl, rfl, rfl⟩ rfl rfl rfl rfl rfl (by kernel_rfl) Tryd.func5 (by kernel_rfl)
    (of_decide_eq_true (by kernel_rfl)) (by unfold Func.isWrapper; first | (rw [if_pos (by decide +kernel)]; kernel_rfl) | (rw [if_neg (by decide +kernel)]; exact ⟨rfl, rfl⟩))
    (fun os started H enc _ => texts_lifted os started H enc)
theorem cellTexts_holds : Rows.CellTextsCardSaid :=
  Claim7.holds_tied_plain_at .later [] [.data, .pinned] true (true, Rows.cellTextsCard.stood.harness.2) true texts_holds (fun _ h => by cases h) (by kernel_rfl) (fun _ h => by cases h) cellTexts_row_tie rfl ⟨rfl, rfl⟩ (by kernel_rfl) rfl
    (fun f fn hf hfn => by
      obtain rfl : f = 5 := Option.some.inj ((show Tryd.prog.funcNamed "fieldfare/fieldfarelaw09.CellTexts" = some 5 by kernel_rfl).symm.trans hf) |>.symm
      obtain rfl : fn = Tryd.f5 := (Option.some.inj (Tryd.func5.symm.trans hfn)).symm
      exact ⟨by kernel_rfl, fun j t ht => by
        rw [Tryd.params5] at ht
        have hm : t ∈ [9, 9, 24] := by simpa using Array.mem_of_getElem? ht
        have hall : ([9, 9, 24].all fun u => !Tryd.prog.wantsStandIn u) = true := by kernel_rfl
        exact (show Tryd.prog.wantsStandIn t = false by simpa using List.all_eq_true.1 hall t hm)⟩)
    (by kernel_rfl)
end Go.Proofs.YtlfdelobjbdimaaDoor

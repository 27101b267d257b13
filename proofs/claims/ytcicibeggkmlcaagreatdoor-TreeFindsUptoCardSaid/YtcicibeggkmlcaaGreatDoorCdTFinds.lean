/- TreeFinds holds of the program, for all trees of at most 1048576 bytes. Conditions: the row's own (the bulk of what is read is at most 1048576). -/
import Derived.Test.YtcicibeggkmlcaaGreatDoorCdT
import Derived.Test.YtcicibeggkmlcaaGreatDoorLtF
import Derived.Carry
namespace Go.Proofs.YtcicibeggkmlcaaGreatDoor.treeFinds
open Go.ChangeShapes Go.WideShapes Go.ChangeAt Go.RowKit Go.Sof Go.Lib
open Go.ChangeMaps (open_string shut_string)

set_option maxRecDepth 1000000 in
set_option maxHeartbeats 4000000 in
theorem contract (H : Type) (enc : TypeId × Value → H) (F : Stop.Interp) (W : World) (args : Array Value) (ds gs : List (DataW H)) (before : List MemPlace)
    (hval : ∀ (j : Nat) t v, Tryz.f15.params[j]? = some t → args[j]? = some v → Value.okWide Tryz.prog W .any 0 t v)
    (hW : DataW.Whole enc Tryz.prog Tryz.f15.params.toList Rows.treeFindsSpec.vars false W args.toList ds gs before) (hc : Rows.uptoSmall H (ds ++ gs) = true) (h : WOK W) :
    Calls Tryz.prog 15 args W fun e W' => ∃ v, e = .returned v ∧ ((Rows.OpenSpec.upto Rows.treeFindsSpec).at F).post enc Tryz.prog Tryz.f15 false true false false W args v W' := by
  have hW' := hW
  obtain ⟨p, q, hA0, hV, rfl, _, _⟩ := hW
  have hA : DataW.TrodAll enc Tryz.prog W 0 (fun _ => true) true Tryz.f15.params.toList args.toList ds p := hA0
  rw [Tryz.params15] at hA hval
  obtain ⟨v0, v1, v2, d0, d1, d2, p0, p1, p2, rfl, rfl, rfl, h0, h1, h2⟩ := trodAll_three hA
  obtain ⟨rfl, rfl⟩ := trodVars_none hV
  obtain ⟨cs0, rfl, hcs0⟩ := okWide_struct Tryz.underlying47 (hval 0 47 v0 rfl rfl)
  have h0k := h0
  obtain ⟨fuel0, h0⟩ := h0
  obtain ⟨n0, dd0, x0, hx0, hn0, hb0⟩ := open_node fuel0 _ _ h0
  have hxe0 : x0 = .agg cs0 := by rw [hx0]; exact congrArg Value.agg (by simp [Value.cells])
  rw [hxe0] at hn0
  obtain ⟨cs1, rfl, hcs1⟩ := okWide_struct Tryz.underlying47 (hval 1 47 v1 rfl rfl)
  have h1k := h1
  obtain ⟨fuel1, h1⟩ := h1
  obtain ⟨n1, dd1, x1, hx1, hn1, hb1⟩ := open_node fuel1 _ _ h1
  have hxe1 : x1 = .agg cs1 := by rw [hx1]; exact congrArg Value.agg (by simp [Value.cells])
  rw [hxe1] at hn1
  obtain ⟨s2, rfl, rfl, rfl, ws2⟩ := open_string Tryz.underlying9 (hval 2 9 v2 rfl rfl) h2
  have hlt : ∀ x ∈ p0 ++ p1 ++ [], x.block < W.heap.size := fun x hx => by simpa using hW'.lt x (by simpa using hx)
  have hlt0 : ∀ x ∈ p0, x.block < W.heap.size := fun x hx => hlt x (List.mem_append_left _ (List.mem_append_left _ hx))
  have hlt1 : ∀ x ∈ p1, x.block < W.heap.size := fun x hx => hlt x (List.mem_append_left _ (List.mem_append_right _ hx))
  clear hA0 hV
  have hs : Rows.uptoBulk d0 ≤ 1048576 ∧ Rows.uptoBulk d1 ≤ 1048576 := by simp [Rows.uptoSmall, Rows.uptoBulkAll] at hc; omega
  simp only at hb0 hb1
  have hcall := tfinds_c W _ _ _ _ _ _ s2.data.toList h hn0 hn1 (ndsz_of _ (by omega)) (by have := nBulk_asize n0; omega) (by have := nBulk_size n1; omega)
  rw [show (⟨s2.data.toList.toArray⟩ : ByteArray) = s2 from by simp] at hcall
  refine hcall.mono ?_
  rintro e W' ⟨rfl, bel⟩
  refine ⟨_, rfl, _, _, _, [], p0 ++ p1 ++ [], [], hW', ?_, ?_, ?_, bel.frame _, fun h => by cases h⟩
  · exact trodAll_mk1 (shut_bool Tryz.underlying4 _)
  · rw [List.append_assoc]
    exact trodAll_mk3 (Below.trod A_laidOut (by kernel_rfl) (of_decide_eq_true (by kernel_rfl)) h0k bel hlt0) (Below.trod A_laidOut (by kernel_rfl) (of_decide_eq_true (by kernel_rfl)) h1k bel hlt1) (shut_string Tryz.underlying9 ws2)
  · rfl

theorem witness_row (os : Os) {H : Type} (enc : TypeId × Value → H) :
    (Rows.OpenSpec.upto Rows.treeFindsSpec).preRow enc Tryz.prog Tryz.f15 Rows.treeFindsUptoRow.domain false Rows.treeFindsUptoRow.laid ((laidWorld os).forCall (fun _ _ => 0) ⟨#[], #[.agg #[.string ⟨#[]⟩, .int .i64 0, .slice none 0 0, .slice none 0 0, .string ⟨#[]⟩], .agg #[.string ⟨#[]⟩, .int .i64 0, .slice none 0 0, .slice none 0 0, .string ⟨#[]⟩], .string ⟨#[]⟩], []⟩).memory #[.agg #[.string ⟨#[]⟩, .int .i64 0, .slice none 0 0, .slice none 0 0, .string ⟨#[]⟩], .agg #[.string ⟨#[]⟩, .int .i64 0, .slice none 0 0, .slice none 0 0, .string ⟨#[]⟩], .string ⟨#[]⟩] := by
  have hw : (DataW.whole enc Tryz.prog ((laidWorld os).forCall (fun _ _ => 0) ⟨#[], #[.agg #[.string ⟨#[]⟩, .int .i64 0, .slice none 0 0, .slice none 0 0, .string ⟨#[]⟩], .agg #[.string ⟨#[]⟩, .int .i64 0, .slice none 0 0, .slice none 0 0, .string ⟨#[]⟩], .string ⟨#[]⟩], []⟩).memory Tryz.f15.params.toList (Rows.OpenSpec.upto Rows.treeFindsSpec).vars false #[Value.agg #[.string ⟨#[]⟩, .int .i64 0, .slice none 0 0, .slice none 0 0, .string ⟨#[]⟩], .agg #[.string ⟨#[]⟩, .int .i64 0, .slice none 0 0, .slice none 0 0, .string ⟨#[]⟩], .string ⟨#[]⟩].toList 8).map (fun x => (x.1, x.2.1)) =
      some ([.agg [.lit (.string []), .lit (.int .i64 0), .nil, .nil, .lit (.string [])], .agg [.lit (.string []), .lit (.int .i64 0), .nil, .nil, .lit (.string [])], .lit (.string [])], []) := by kernel_rfl
  obtain ⟨⟨x1, x2, x3⟩, hx, hx1⟩ := Option.map_eq_some_iff.1 hw
  simp only [Prod.mk.injEq] at hx1
  obtain ⟨rfl, rfl⟩ := hx1
  exact OpenSpec.preRow_of_cond 8 hx (by kernel_rfl) (fun k hk => by cases hk; kernel_rfl) (by kernel_rfl) (laid_met os _)

set_option maxRecDepth 100000 in
theorem lifted (os : Os) (started : os.Started) (H : Type) (enc : TypeId × Value → H) (F : Stop.Interp) :
    ReturnsInHanded {} Tryz.checked os 15 .any ((Rows.OpenSpec.upto Rows.treeFindsSpec).preRow enc Tryz.prog Tryz.f15 Rows.treeFindsUptoRow.domain false Rows.treeFindsUptoRow.laid) (((Rows.OpenSpec.upto Rows.treeFindsSpec).at F).post enc Tryz.prog Tryz.f15 false true false false) := by
  refine returnsInHanded_of_row (C := Tryz.checked) (s := Rows.OpenSpec.upto Rows.treeFindsSpec) A_own started (by kernel_rfl) Tryz.func15
    (witness_row_atRef (enc := enc) (C := Tryz.checked) false (laidWorld os) #[.agg #[.string ⟨#[]⟩, .int .i64 0, .slice none 0 0, .slice none 0 0, .string ⟨#[]⟩], .agg #[.string ⟨#[]⟩, .int .i64 0, .slice none 0 0, .slice none 0 0, .string ⟨#[]⟩], .string ⟨#[]⟩] rfl (by kernel_rfl) (by kernel_rfl) (by kernel_rfl) (witness_row os enc)) ?_
  intro W base args ds gs before hval0 hW _ hcond _ hL hS _
  exact contract H enc F W args ds gs before (fun j t v hj ha => hval0 j t v hj ha) hW (hcond _ rfl) (wok_of W hL hS)

theorem saidUpto : Rows.TreeFindsUptoSaid :=
  OpenClaim.holds_of_cond 15 Tryz.f15 rfl rfl rfl rfl rfl rfl rfl ⟨rfl, rfl, rfl, rfl, rfl⟩ rfl rfl rfl rfl rfl (by kernel_rfl) Tryz.func15 (by kernel_rfl)
    (of_decide_eq_true (by kernel_rfl)) (by unfold Func.isWrapper; first | (rw [if_pos (by decide +kernel)]; kernel_rfl) | (rw [if_neg (by decide +kernel)]; exact ⟨rfl, rfl⟩))
    (fun os started H enc _ F => by rw [OpenClaim.pre_eq_preRow]; exact lifted os started H enc F)

theorem plain (f : FuncId) (fn : Func) (hf : Tryz.pinned.checked.prog.funcNamed "soffit/soffitlaw06.TreeFinds" = some f) (hfn : Tryz.pinned.checked.prog.funcs[f]? = some fn) :
    true = Tryz.pinned.checked.prog.looks [] ∧ ∀ (j : Nat) t, fn.params[j]? = some t → Tryz.pinned.checked.prog.wantsStandIn t = false := by
  obtain rfl : f = 15 := Option.some.inj ((show Tryz.prog.funcNamed "soffit/soffitlaw06.TreeFinds" = some 15 by kernel_rfl).symm.trans hf) |>.symm
  obtain rfl : fn = Tryz.f15 := (Option.some.inj (Tryz.func15.symm.trans hfn)).symm
  refine ⟨by kernel_rfl, fun j t ht => ?_⟩
  rw [Tryz.params15] at ht
  have ht' : t = 47 ∨ t = 9 := by simpa using Array.mem_of_getElem? ht
  rcases ht' with rfl | rfl
  · exact (show Tryz.prog.wantsStandIn 47 = false by kernel_rfl)
  · exact (show Tryz.prog.wantsStandIn 9 = false by kernel_rfl)

/-- ████ THE CARD ████ -/
theorem cardUpto : Rows.TreeFindsUptoCardSaid :=
  Claim7.holds_tied_plain_at .later [] _ _ _ _ saidUpto (fun _ h => by cases h) (by kernel_rfl) (fun _ h => by cases h) treeFindsUpto_row_tie rfl ⟨rfl, rfl⟩ (by kernel_rfl) rfl plain (by kernel_rfl)
end Go.Proofs.YtcicibeggkmlcaaGreatDoor.treeFinds

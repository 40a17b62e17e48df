/- The statement HeapClean: for every input the call returns true, and each argument reads behind it as it did. No condition. -/
import Derived.Test.YtnheibcjcgacpaaGreatDoorRows
import Derived.WalkKit
import Derived.ProofKit
import Derived.OpenShut
import Derived.ShutString
import Derived.ChangeOld
import Derived.Below
import Derived.LaidMore
import Derived.Stop.Joined
import Derived.Lib.LaidTab
import Derived.SevenTiedAt
import Derived.Test.YtnheibcjcgacpaaGreatDoorTie
import Derived.Test.YtnheibcjcgacpaaGreatDoorCards
import Derived.Test.YtnheibcjcgacpaaGreatDoorArgs
import Derived.Test.YtnheibcjcgacpaaGreatDoorSzs
import Derived.Test.YtnheibcjcgacpaaGreatDoorHcl
import Derived.Test.YtnheibcjcgacpaaGreatDoorHag
set_option linter.unusedVariables false
set_option linter.unusedSimpArgs false
namespace Go.Proofs.YtnheibcjcgacpaaGreatDoor.heapClean
open Go.ChangeShapes Go.WideShapes Go.ChangeAt Go.RowKit
open Go.ChangeMaps (open_string shut_string)

theorem own : ownKnob Tryz.prog.godebug = none := by kernel_rfl
theorem laidOut : laidOutB Tryz.prog = true := by kernel_rfl
theorem okt0 : okT Tryz.prog 6 26 = true := by kernel_rfl
theorem flat0 : flat Tryz.prog 6 26 = some [.int .i64, .int .i64, .sl 1 [.int .i64], .sl 1 [.int .i64]] := by kernel_rfl
theorem okt1 : okT Tryz.prog 6 27 = true := by kernel_rfl
theorem flat1 : flat Tryz.prog 6 27 = some [.sl 4 [.int .i64, .int .i64, .bool, .sl 1 [.int .i64]]] := by kernel_rfl

theorem gTab : Tryz.prog.globalNamed "math/bits.deBruijn64tab" = some 0 := by kernel_rfl
theorem tTab : (Tryz.prog.globals[0]?).map (·.type) = some 335 := by kernel_rfl
theorem c8 : Tryz.prog.cellsOf 5 = 1 := by kernel_rfl
theorem c64 : Tryz.prog.cellsOf 335 = 64 := by kernel_rfl
def laid : List (String × DataW Unit) := [("math/bits.deBruijn64tab", Rows.laid_math_bits_deBruijn64tab)]
theorem laid_eq : laid = [("math/bits.deBruijn64tab", Lib.tabData .u8 (Lib.deBruijn64tab.map fun (n : Nat) => (n : Int)))] := rfl
theorem tab_of {W : World} (h : laidMetH Tryz.prog laid W) : Sh.Tab W := by
  rw [MakeChecks.laidMetH_plain _ _ _ (by kernel_rfl), laid_eq] at h
  intro j hj
  have h1 := (Lib.tabIs_of_head gTab tTab Tryz.underlying335 Tryz.underlying5 c8 c64 h).cell gTab j hj
  rw [h1]
  simp only [List.getD_eq_getElem?_getD, List.getElem?_map]
  cases h2 : Lib.deBruijn64tab[j]? <;> simp
theorem door_met (os : Os) (args : Array Value) : laidMetH Tryz.prog laid ((World.doorLaid Tryz.prog 400 os).forCall (fun _ _ => 0) ⟨#[], args, []⟩).memory :=
  laidMetH_of_parts3 (fuel := 8) (laidMet_of_run' 8 (by kernel_rfl) (by kernel_rfl)) (by kernel_rfl) (by kernel_rfl)

theorem walk (a0 : List Value) (a1 : Value) (a2 : Bool) (w : World) (w0 : All2 (Leaf.okZ w 6) [.int .i64, .int .i64, .sl 1 [.int .i64], .sl 1 [.int .i64]] a0) (w1 : Leaf.okZ w 6 (.sl 4 [.int .i64, .int .i64, .bool, .sl 1 [.int .i64]]) a1) (hT : Sh.Tab w) :
    Calls Tryz.prog 5 #[.agg a0.toArray, a1, .bool a2] w fun e w' => e = .returned (.bool true) ∧ Below w.heap.size w w' := by
  obtain ⟨P, C, A0, n0, c0, W0, A1, n1, c1, W1, rfl, e1, e2, e3, e4, e5, e6, e7, e8⟩ := Hm.conf_argZ w0
  obtain ⟨A, cap, xs, rfl, h1, h2, h3⟩ := Hm.hops_argZ w1
  exact (Hm.clean_any w P C a2 A0 A1 A n0 c0 n1 c1 cap W0 W1 xs hT e1 e2 e3 e5 e6 e7 e4 e8 h3 h1 (fun x hx => (h2 x hx).1) (fun x hx => (h2 x hx).2)).mono fun e w' ⟨h, k⟩ => ⟨h, k.below⟩

set_option maxRecDepth 100000 in
theorem lifted (os : Os) (started : os.Started) (H : Type) (enc : TypeId × Value → H) :
    ReturnsInHanded {} Tryz.checked os 5 .any (fun w args => (Rows.heapCleanSpec.pre enc Tryz.prog Tryz.f5 [] false w args ∧ laidMetH Tryz.prog laid w) ∧ sizedMet enc Tryz.prog Tryz.f5 (OpenSpec.ofChange Rows.heapCleanSpec) false w args) (Rows.heapCleanSpec.post enc Tryz.prog Tryz.f5 false true false false) := by
  refine returnsInHanded_of_change_and (C := Tryz.checked) (X := fun w _ => laidMetH Tryz.prog laid w) (fun _ _ _ hh h => h.of_heap hh) own started (by kernel_rfl) Tryz.func5
    (ChangeSpec.witness_shaped (enc := enc) (C := Tryz.checked) (os := os) (X := fun w _ => laidMetH Tryz.prog laid w) false (World.doorLaid Tryz.prog 400 os) #[.agg #[.int .i64 0, .int .i64 0, .slice none 0 0, .slice none 0 0], .slice none 0 0, .bool false] 8 rfl (World.shaped_of_RefB (by kernel_rfl) (by kernel_rfl)) (by kernel_rfl) (by kernel_rfl) (by kernel_rfl) (door_met os _)) ?_
  intro W base args ds gs before hval0 hW _ hZ hL _
  have hval : ∀ (j : Nat) t v, Tryz.f5.params[j]? = some t → args[j]? = some v → Value.okWide Tryz.prog W .any base t v := hval0
  have hT : Sh.Tab W := tab_of hL
  have hW' := hW
  obtain ⟨p, q, hA0, hV, rfl, hfz, hnd⟩ := hW
  have hA : DataW.TrodAll enc Tryz.prog W 0 (fun _ => true) true Tryz.f5.params.toList args.toList ds p := hA0
  rw [Tryz.params5] at hA hval
  obtain ⟨v0, vs0, d0, ds0, p0, q0, hargs, rfl, rfl, h0, r0⟩ := trodAll_cons hA
  obtain ⟨v1, vs1, d1, ds1, p1, q1, rfl, rfl, rfl, h1, r1⟩ := trodAll_cons r0
  obtain ⟨v2, vs2, d2, ds2, p2, q2, rfl, rfl, rfl, h2, r2⟩ := trodAll_cons r1
  obtain ⟨rfl, rfl, rfl⟩ := trodAll_nil r2
  obtain rfl : args = #[v0, v1, v2] := by cases args; simp_all
  obtain ⟨rfl, rfl⟩ := trodVars_none hV
  have z0 : ∀ q ∈ d0.weights Tryz.prog 26, q ≤ reachBytes := fun q hq => by
    have hz := List.all_eq_true.1 hZ q (DataW.weights_mem_each (j := 0) (t := 26) (d := d0) (by rw [Tryz.params5]; rfl) rfl q hq)
    simpa using hz
  have z1 : ∀ q ∈ d1.weights Tryz.prog 27, q ≤ reachBytes := fun q hq => by
    have hz := List.all_eq_true.1 hZ q (DataW.weights_mem_each (j := 1) (t := 27) (d := d1) (by rw [Tryz.params5]; rfl) rfl q hq)
    simpa using hz
  have k0 := h0
  have lt0 : ∀ x ∈ p0, x.block < W.heap.size := by obtain ⟨m, hm⟩ := k0; exact DataW.trod_lt m _ _ _ hm
  obtain ⟨a0, rfl, w0⟩ := open_flatZ Tryz.underlying26 (hval 0 26 v0 rfl rfl) h0 6 flat0 okt0 z0
  have k1 := h1
  have lt1 : ∀ x ∈ p1, x.block < W.heap.size := by obtain ⟨m, hm⟩ := k1; exact DataW.trod_lt m _ _ _ hm
  have w1 := open_rowsZ Tryz.underlying27 (hval 1 27 v1 rfl rfl) h1 6 flat1 okt1 z1
  obtain ⟨a2, rfl, rfl, rfl⟩ := open_bool Tryz.underlying4 (hval 2 4 v2 rfl rfl) h2
  clear hA0 hval0
  refine (walk a0 v1 a2 W w0 w1 hT).mono fun e W' ⟨he, bel⟩ => ?_
  subst he
  exact ⟨_, rfl, _, _, _, [], _, [], hW', trodAll_mk1 (shut_bool Tryz.underlying4 _), (trodAll_cons_mk (Below.trod laidOut (by kernel_rfl) (of_decide_eq_true (by kernel_rfl)) k0 bel lt0) (trodAll_cons_mk (Below.trod laidOut (by kernel_rfl) (of_decide_eq_true (by kernel_rfl)) k1 bel lt1) (trodAll_cons_mk (shut_bool Tryz.underlying4 a2) trodAll_mk0))), rfl, bel.frame _, fun h => by cases h⟩

theorem named : Tryz.prog.funcNamed "garth/garthlaw17.HeapClean" = some 5 := by kernel_rfl
set_option maxHeartbeats 8000000 in
/-- The facts of the program, each one of its own (together they outgrow the lid on memory). -/
theorem closed : joinedFacts Tryz.prog 5 Tryz.f5 Rows.heapCleanSpec Rows.heapCleanRow = true := by
  unfold joinedFacts
  simp only [Bool.and_eq_true]
  repeat' (refine And.intro ?_ ?_)
  all_goals (as_aux_lemma => kernel_rfl)
theorem instB : decide (Tryz.f5.isInstance Tryz.prog Rows.heapCleanRow.origin Rows.heapCleanRow.targs) = true := by kernel_rfl
theorem wrapB : Tryz.f5.isWrapper Tryz.prog Rows.heapCleanRow.wrapper Rows.heapCleanRow.mainSum := by
  unfold Func.isWrapper; first | (rw [if_pos (by decide +kernel)]; kernel_rfl) | (rw [if_neg (by decide +kernel)]; exact ⟨rfl, rfl⟩)
theorem over : Rows.heapCleanRow.holds Tryz.pinned (OpenSpec.ofChange Rows.heapCleanSpec) :=
  OpenClaim.holds_of_wide 5 Tryz.f5 rfl rfl rfl rfl rfl rfl rfl ⟨rfl, rfl, rfl, rfl, rfl⟩ rfl rfl rfl rfl rfl named Tryz.func5 closed
    (of_decide_eq_true instB) wrapB
    (fun os started H enc _ => lifted os started H enc)

theorem proved : Rows.HeapCleanCardSaid :=
  Claim7.holds_tied_plain_at .later [] [.data] true (true, "26fc7e1a91799e0b0fe3648034116d1e117b10424fb76b1390aa0fd7718f7f7d") false
    over (fun _ h => by cases h) (by as_aux_lemma => kernel_rfl) (fun _ h => by cases h) heapClean_row_tie rfl ⟨rfl, rfl⟩ (by as_aux_lemma => kernel_rfl) rfl
    (fun f fn hf hfn => by
      obtain rfl : f = 5 := Option.some.inj (named.symm.trans hf) |>.symm
      obtain rfl : fn = Tryz.f5 := (Option.some.inj (Tryz.func5.symm.trans hfn)).symm
      exact ⟨by as_aux_lemma => kernel_rfl, fun j t ht => by
        rw [Tryz.params5] at ht
        have hm : t ∈ [26, 27, 4] := by simpa using Array.mem_of_getElem? ht
        have hall : ([26, 27, 4].all fun u => !Tryz.prog.wantsStandIn u) = true := by as_aux_lemma => kernel_rfl
        exact (show Tryz.prog.wantsStandIn t = false by simpa using List.all_eq_true.1 hall t hm)⟩)
    (by as_aux_lemma => kernel_rfl)
#print axioms proved
end Go.Proofs.YtnheibcjcgacpaaGreatDoor.heapClean

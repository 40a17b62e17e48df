/- The model package's walk: charged. -/
import Derived.Test.YtagmkkddjdlncaaDoorMoF
import Derived.Test.YtagmkkddjdlncaaDoorMoP
import Derived.Test.YtagmkkddjdlncaaDoorRng
set_option linter.unusedVariables false
set_option linter.unusedSimpArgs false
namespace Go.Proofs.YtagmkkddjdlncaaDoor
open Go.RowKit Go.ChangeMaps
namespace Mo
/-- An object's block, and the object, as a value of the map. -/
def oenc (x : Nat × MO) : Value := .agg #[.slice (some ⟨x.1, 0, none⟩) x.2.bs.length x.2.bs.length, .int .i64 x.2.cost]
def tag (g : Int → Nat) (E : List (Int × MO)) : List (Int × (Nat × MO)) := E.map fun x => (x.1, (g x.1, x.2))
theorem tag_length (g : Int → Nat) (E : List (Int × MO)) : (tag g E).length = E.length := by simp [tag]
def sumT (L : List (Int × (Nat × MO))) : Nat := (L.map (fun x => x.2.2.cost)).sum
theorem sumT_tag (g : Int → Nat) (E : List (Int × MO)) : sumT (tag g E) = sum E := by
  unfold sumT tag sum
  rw [List.map_map]; rfl
theorem sumT_mid (A B : List (Int × (Nat × MO))) (x : Int × (Nat × MO)) : sumT (A ++ x :: B) = sumT (A ++ B) + x.2.2.cost := by
  simp [sumT]; omega
set_option maxRecDepth 100000 in
set_option maxHeartbeats 1000000 in
theorem charged_tag (w : World) (b c ob : Nat) (k q t n : Int) (L : List (Int × (Nat × MO))) (H : w.heap[b]? = some (.cells (pcells c k q t ob n) 58 (0, 0))) (hm : EMap oenc w ob L) (hs : sumT L ≤ 1000000) :
    Calls Tryd.prog 25 #[.pointer (some ⟨b, 0, none⟩)] w fun e w' => e = .returned (.int .i64 (sumT L)) ∧ Keeps (fun _ => False) w w' := by
  have c4 := cell_of (v := .map (some ob)) H 4 rfl
  obtain ⟨w1, rg, R1, k1⟩ := hm.range (P := Tryd.prog) Tryd.underlying56
  obtain ⟨r, hr⟩ : ∃ r, w.heap.size = r := ⟨_, rfl⟩
  rw [hr] at rg R1
  have HR := Hid.of (And.intro R1 k1)
  have hrl : r < w1.heap.size := R1.lt
  have HS := Hid.of hs
  clear H hm R1 k1 hs
  go_enter Tryd.func25, Tryd.ntmps25
  go_wp2
  go_loopw [3] (fun i wr => ∃ (left : List (Int × (Nat × MO))) (S : Nat), i = .int .i64 S ∧ Hid (S + sumT left = sumT L ∧ ERange oenc wr ob r L left ∧ Keeps (fun _ => False) w wr)) (fun _ wr => wr.rangeLeft ob r)
  case atStart => exact ⟨L, 0, rfl, Hid.of (And.intro (by omega) HR.out)⟩
  case round =>
    obtain ⟨left, S, rfl, HH⟩ := hrel
    rcases HH.out.2.1.next Tryd.prog with ⟨hl, hn⟩ | ⟨kk, v, l1, l2, w2, hl, hn, R2, k2, he⟩
    · have hS : S = sumT L := by have := HH.out.1; rw [hl] at this; simpa [sumT] using this
      have HK := Hid.of HH.out.2.2
      clear HH hl
      go_wp2
      go_ret
      subst hS
      exact ⟨rfl, HK.out⟩
    · obtain ⟨bl, ⟨bb, cost⟩⟩ := v
      unfold oenc at hn he
      dsimp only at hn he
      have hsum : S + cost + sumT (l1 ++ l2) = sumT L := by have := HH.out.1; rw [hl, sumT_mid] at this; simp only at this; omega
      have k3 : Keeps (fun _ => False) w2 (w2.alloc (.cells #[.slice (some ⟨bl, 0, none⟩) bb.length bb.length, .int .i64 cost] 63)) := (Keeps.refl _ _).alloc _
      have R3 := R2.keep k3 (fun x => x) (fun x => x)
      have hml : (w2.alloc (.cells #[.slice (some ⟨bl, 0, none⟩) bb.length bb.length, .int .i64 cost] 63)).rangeLeft ob r < wr.rangeLeft ob r := by rw [R3.left_eq, HH.out.2.1.left_eq, hl]; simp
      have HM := Hid.of hml
      have hb2 : cost + S ≤ 1000000 := by have := HS.out; omega
      have hK : Keeps (fun _ => False) w w2 := HH.out.2.2.trans' k2 (fun x hx hlt => by subst hx; omega)
      have HF := Hid.of (And.intro hsum (And.intro R3 (hK.trans k3)))
      clear HH hl hsum R2 k2 hml hK R3 k3
      go_wp2
      go_roundw
      case rel => exact ⟨l1 ++ l2, S + cost, by go_num, HF⟩
      case measure => exact HM.out
end Mo
end Go.Proofs.YtagmkkddjdlncaaDoor

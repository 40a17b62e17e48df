/- The document's script (garthref22): num, size, row. -/
import Derived.Test.YtmlolkjgniodpaaScrH
set_option linter.unusedVariables false
set_option linter.unusedSimpArgs false
namespace Go.Proofs.Ytmlolkjgniodpaa
open Go.RowKit Go.ChangeMaps
attribute [-go_sem] run_index_string
namespace Scr
set_option maxRecDepth 100000 in
set_option maxHeartbeats 600000 in
theorem rnum_any (w : World) (l : Bs) (h : 2 ≤ l.length) :
    Calls Try.prog 76 #[.string (bs l)] w fun e w' => e = .returned (.int .i64 (nm l)) ∧ Keeps (fun _ => False) w w' := by
  have e0 : nm l = nm2 (byteAt l 0) (byteAt l 1) := rfl
  rw [e0]
  obtain ⟨hb, hc⟩ := byteAt_bd l 0
  obtain ⟨hd, he⟩ := byteAt_bd l 1
  unfold nm2
  clear e0
  have hw0 : IntKind.i64.wrap (256 * byteAt l 1) = 256 * byteAt l 1 := by rw [IntKind.wrap_i64]; omega
  have hw1 : IntKind.i64.wrap (byteAt l 0 + 256 * byteAt l 1) = byteAt l 0 + 256 * byteAt l 1 := by rw [IntKind.wrap_i64]; omega
  have hs0 : 0 ≤ byteAt l 0 + 256 * byteAt l 1 := by omega
  have hs1 : byteAt l 0 + 256 * byteAt l 1 ≤ 65535 := by omega
  by_cases hx : 32768 ≤ byteAt l 0 + 256 * byteAt l 1
  · rw [if_pos hx]
    have HX := Hid.of hx
    have hd1 : decide (32768 ≤ byteAt l 0 + 256 * byteAt l 1) = true := by simpa using hx
    clear hx
    go_enter Try.func76, Try.ntmps76
    go_wp2
    go_quiet (fail)
    have hx := HX.out
    clear hw0 hw1
    go_wp2
    go_ret
    exact ⟨rfl, (Keeps.refl _ _).drewN _⟩
  · rw [if_neg hx]
    have HX := Hid.of hx
    clear hx
    go_enter Try.func76, Try.ntmps76
    go_wp2
    go_quiet (fail)
    have hx := HX.out
    generalize hz : byteAt l 0 + 256 * byteAt l 1 = z at *
    have HZ := Hid.of hz
    clear hw0 hw1 hb hc hd he hz
    go_wp2
    go_ret
    exact ⟨by rw [HZ.out]; rfl, (Keeps.refl _ _).drewN _⟩
def pc : Part → UInt8
  | .n => 110
  | .m => 109
  | .d => 100
  | .h => 104
def pci : Part → Int
  | .n => 110
  | .m => 109
  | .d => 100
  | .h => 104
def rsz (p : Part) (l : Bs) : Int := if l.length < pn p l then -1 else pn p l
set_option maxRecDepth 100000 in
set_option maxHeartbeats 600000 in
theorem rsize_any (w : World) (p : Part) (l : Bs) (hl : l.length ≤ 1000000) :
    Calls Try.prog 75 #[.int .u8 (pci p), .string (bs l)] w fun e w' => e = .returned (.int .i64 (rsz p l)) ∧ w = w' := by
  obtain ⟨hb, hc⟩ := byteAt_bd l 0
  cases p with
  | n =>
    show Calls _ _ #[.int .u8 110, _] _ _
    have e : rsz .n l = if l.length < 2 then -1 else 2 := rfl
    rw [e]
    by_cases hx : l.length < 2
    · rw [if_pos hx]
      go_enter Try.func75, Try.ntmps75
      go_wp2
      go_ret
      exact ⟨rfl, rfl⟩
    · rw [if_neg hx]
      go_enter Try.func75, Try.ntmps75
      go_wp2
      go_ret
      exact ⟨rfl, rfl⟩
  | m =>
    show Calls _ _ #[.int .u8 109, _] _ _
    have e : rsz .m l = if l.length < 2 then -1 else 2 := rfl
    rw [e]
    by_cases hx : l.length < 2
    · rw [if_pos hx]
      go_enter Try.func75, Try.ntmps75
      go_wp2
      go_ret
      exact ⟨rfl, rfl⟩
    · rw [if_neg hx]
      go_enter Try.func75, Try.ntmps75
      go_wp2
      go_ret
      exact ⟨rfl, rfl⟩
  | d =>
    show Calls _ _ #[.int .u8 100, _] _ _
    by_cases h0 : l.length = 0
    · have : l = [] := List.eq_nil_of_length_eq_zero h0
      subst this
      have e : rsz .d [] = -1 := rfl
      rw [e]
      clear hb hc h0
      go_enter Try.func75, Try.ntmps75
      go_wp2
      go_ret
      exact ⟨rfl, rfl⟩
    · have e : rsz .d l = if (l.length : Int) < 1 + byteAt l 0 then -1 else 1 + byteAt l 0 := by
        unfold rsz byteAt
        rw [pn_d]
        by_cases hx : l.length < 1 + (l.getD 0 0).toNat
        · rw [if_pos hx, if_pos (by omega)]
        · rw [if_neg hx, if_neg (by omega)]; omega
      rw [e]
      have h0' : ((l.length : Int) == 0) = false := by simp; exact fun h => h0 (by simp [h])
      have h1 : 0 < l.length := by omega
      clear e h0
      by_cases hx : (l.length : Int) < 1 + byteAt l 0
      · rw [if_pos hx]
        go_enter Try.func75, Try.ntmps75
        go_wp2
        go_ret
        exact ⟨rfl, rfl⟩
      · rw [if_neg hx]
        go_enter Try.func75, Try.ntmps75
        go_wp2
        go_ret
        exact ⟨rfl, rfl⟩
  | h =>
    show Calls _ _ #[.int .u8 104, _] _ _
    by_cases h0 : l.length = 0
    · have : l = [] := List.eq_nil_of_length_eq_zero h0
      subst this
      have e : rsz .h [] = -1 := rfl
      rw [e]
      clear hb hc h0
      go_enter Try.func75, Try.ntmps75
      go_wp2
      go_ret
      exact ⟨rfl, rfl⟩
    · have h0' : ((l.length : Int) == 0) = false := by simp; exact fun h => h0 (by simp [h])
      have h1 : 0 < l.length := by omega
      by_cases h255 : byteAt l 0 = 255
      · have e : rsz .h l = if l.length < 9 then -1 else 9 := by
          unfold byteAt at h255
          have hp : pn .h l = 9 := by rw [pn_h, if_pos (by omega)]
          unfold rsz
          rw [hp]; rfl
        rw [e]
        have h2 : (byteAt l 0 == 255) = true := by simp [h255]
        clear e h0 h255
        by_cases hx : l.length < 9
        · rw [if_pos hx]
          go_enter Try.func75, Try.ntmps75
          go_wp2
          go_ret
          exact ⟨rfl, rfl⟩
        · rw [if_neg hx]
          go_enter Try.func75, Try.ntmps75
          go_wp2
          go_ret
          exact ⟨rfl, rfl⟩
      · have e : rsz .h l = 1 := by
          unfold byteAt at h255
          have hp : pn .h l = 1 := by rw [pn_h, if_neg (by omega)]
          unfold rsz
          rw [hp, if_neg (by omega)]; rfl
        rw [e]
        have h2 : (byteAt l 0 == 255) = false := by simp [h255]
        have hx : ¬ l.length < 1 := by omega
        clear e h0 h255
        go_enter Try.func75, Try.ntmps75
        go_wp2
        go_ret
        exact ⟨rfl, rfl⟩
set_option maxRecDepth 100000 in
set_option maxHeartbeats 1000000 in
theorem row_any (w : World) (k : Int) (h1 : 0 ≤ k) (h2 : k < 16) :
    Calls Try.prog 74 #[.int .i64 k] w fun e w' => e = .returned (.string (bs ((row k).map pc))) ∧ w = w' := by
  rcases kind_cases k h1 h2 with rfl | rfl | rfl | rfl | rfl | rfl | rfl | rfl | rfl | rfl | rfl | rfl | rfl | rfl | rfl | rfl
  all_goals
    clear h1 h2
    go_enter Try.func74, Try.ntmps74
    go_wp2
    go_ret
    exact ⟨rfl, rfl⟩
end Scr
end Go.Proofs.Ytmlolkjgniodpaa

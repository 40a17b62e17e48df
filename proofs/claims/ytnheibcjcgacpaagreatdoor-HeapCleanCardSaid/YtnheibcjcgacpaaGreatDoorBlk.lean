/- The heap's walks: Blocks. -/
import Derived.Test.YtnheibcjcgacpaaGreatDoorHip
import Derived.Deep.MidRow
set_option linter.unusedVariables false
set_option linter.unusedSimpArgs false
namespace Go.Proofs.YtnheibcjcgacpaaGreatDoor
open Go.RowKit Go.ChangeMaps
namespace Hin
open Pgi He Pg
def hadK (H : HS) (c s k : Nat) : Bool := decide (8 ≤ c) || hasB H (Pc.loc c s) k
def bl3 (H : HS) (c s n : Nat) : List Int := ((List.range n).filter (hadK H c s)).map (fun k => ((Pc.addr c s k : Nat) : Int))
def bl2 (H : HS) (c n : Nat) : List Int := (List.range n).flatMap (fun s => if (H.F c).getD s false then [] else bl3 H c s (Pc.nb c))
def bl1 (H : HS) (n : Nat) : List Int := (List.range n).flatMap (fun c => bl2 H c (Pc.slots c))
/-- All blocks that are had, in the order in which Blocks tells them. -/
def blocksL (H : HS) : List Int := bl1 H 24
theorem bl3_snoc (H : HS) (c s n : Nat) : bl3 H c s (n + 1) = bl3 H c s n ++ if hadK H c s n then [((Pc.addr c s n : Nat) : Int)] else [] := by
  unfold bl3
  rw [List.range_succ, List.filter_append, List.map_append, List.filter_cons, List.filter_nil]
  split <;> rfl
theorem bl2_snoc (H : HS) (c n : Nat) : bl2 H c (n + 1) = bl2 H c n ++ if (H.F c).getD n false then [] else bl3 H c n (Pc.nb c) := by
  unfold bl2
  rw [List.range_succ, List.flatMap_append, List.flatMap_cons, List.flatMap_nil, List.append_nil]
theorem bl1_snoc (H : HS) (n : Nat) : bl1 H (n + 1) = bl1 H n ++ bl2 H n (Pc.slots n) := by
  unfold bl1
  rw [List.range_succ, List.flatMap_append, List.flatMap_cons, List.flatMap_nil, List.append_nil]
theorem nb_le {c : Nat} (h : c < 24) : 1 ≤ Pc.nb c ∧ Pc.nb c ≤ 32 := by
  unfold Pc.nb
  split
  · have := Pc.per_range (c := c) (by assumption); omega
  · omega
theorem bl3_len (H : HS) (c s n : Nat) : (bl3 H c s n).length ≤ n := by
  unfold bl3
  rw [List.length_map]
  exact Nat.le_trans (List.length_filter_le _ _) (by simp)
theorem bl2_len (H : HS) {c : Nat} (h : c < 24) : ∀ n, (bl2 H c n).length ≤ n * 32
  | 0 => by simp [bl2]
  | n + 1 => by
    have h1 := bl2_len H h n
    have h2 := bl3_len H c n (Pc.nb c)
    have h3 := (nb_le h).2
    rw [bl2_snoc, List.length_append]
    split
    · simp; omega
    · omega
theorem bl1_len (H : HS) : ∀ n, n ≤ 24 → (bl1 H n).length ≤ n * 8192
  | 0, _ => by simp [bl1]
  | n + 1, h => by
    have h1 := bl1_len H n (by omega)
    have h2 := bl2_len H (c := n) (by omega) (Pc.slots n)
    have h3 := (Pc.slots_range (c := n) (by omega)).2
    rw [bl1_snoc, List.length_append]
    omega
def BlkR (w : World) (L : List Int) (e : Ending) (w' : World) : Prop := ∃ v, e = .returned v ∧ OutR 3 1 w.heap.size w' v L.length (ints L) ∧ Keeps (fun _ => False) w w'
theorem max_nb {c : Nat} (h : c < 24) : (if (1 : Int) < (Pc.per c : Int) then (Pc.per c : Int) else 1) = ((Pc.nb c : Nat) : Int) := by
  unfold Pc.nb
  by_cases h8 : c < 8
  · have := Pc.per_range h8
    rw [if_pos h8, if_pos (by omega)]
  · rw [if_neg h8]
    have : Pc.per c = 0 := by unfold Pc.per; rw [if_neg h8]
    rw [this, if_neg (by omega)]
    rfl
def shL (X : HX) : List Value := (List.range 24).map (fun c => .pointer (some ⟨X.sb c, 0, none⟩))
def ShV (X : HX) : Value := .agg (shL X).toArray
theorem sh_load {w : World} {X : HX} {g : Int → Pla} {a m : Nat} {H : HS} (h : HAt w X g a m H) : (loadVar 151 ⟨X.hb, 4, none⟩).run Tryz.prog w = .ok (ShV X) w := by
  refine run_loadVar_mid w X.hb 4 151 (shL X) (.array 24 150) ?_ (by kernel_rfl) rfl (by kernel_rfl)
  intro j v hv
  unfold shL at hv
  rw [List.getElem?_map] at hv
  by_cases hj : j < 24
  · rw [List.getElem?_range hj] at hv
    cases hv
    exact h.slotCell hj
  · rw [List.getElem?_eq_none (by simp; omega)] at hv
    cases hv
theorem sh_index (X : HX) {c : Nat} (hc : c < 24) (w : World) : (Instr.index 151 (ShV X) (.int .i64 (c : Int))).run Tryz.prog w = .ok (.pointer (some ⟨X.sb c, 0, none⟩)) w := by
  have hu : Tryz.prog.underlying 151 = some (.array 24 150) := by kernel_rfl
  have hg : (shL X)[c]? = some (.pointer (some ⟨X.sb c, 0, none⟩)) := by
    unfold shL
    rw [List.getElem?_map, List.getElem?_range hc]; rfl
  have h0 : (0 : Int) ≤ (c : Int) ∧ (c : Int) < 24 := by omega
  simp [Instr.index, run_underlying hu, asIntOf, go_sem, ShV, h0, hc, hg]
theorem small_load {w : World} {X : HX} {g : Int → Pla} {a m : Nat} {H : HS} (h : HAt w X g a m H) : (loadVar 153 ⟨X.hb, 36, none⟩).run Tryz.prog w = .ok (.map (some X.db)) w := by
  obtain ⟨-, -, -, -, c⟩ := h.four
  simp [go_sem, c]
section
attribute [-go_sem] loadVar
set_option maxRecDepth 100000 in
set_option maxHeartbeats 2000000 in
theorem blocks_any (w : World) (X : HX) (g : Int → Pla) (p : Ar.Pl) (v : Value) (cp : Co.Pla) (H : HS) (S : Ar.AS) (M : Co.CM) (j : HJ w X g p v cp H S M) :
    Calls Tryz.prog 21 #[.pointer (some ⟨X.hb, 0, none⟩)] w (BlkR w (blocksL H)) := by
  have hld := sh_load j.h
  have hix := fun (c : Nat) (hc : c < 24) => sh_index X hc
  have HJ0 := Hid.of j
  have HR := Hid.of (show blocksL H = bl1 H 24 from rfl)
  generalize blocksL H = Rz at HR ⊢
  obtain ⟨AV, hAV⟩ : ∃ AV, ShV X = AV := ⟨_, rfl⟩
  rw [hAV] at hld hix
  clear hAV j
  go_enter Tryz.func21, Tryz.ntmps21
  go_wp2_with fail
  clear hld
  go_loopw [2, 15] (fun v i wr => ∃ (c : Nat) (K : List Int), c ≤ 24 ∧ i = .int .i64 c ∧ K.length ≤ c * 8192 ∧ OutR 3 1 w.heap.size wr v K.length (ints K) ∧ Keeps (fun _ => False) w wr ∧ Hid (K = bl1 H c)) (fun _ i _ => 24 - (intOf i).toNat)
  case atStart => exact ⟨0, [], by omega, rfl, by simp, OutR.nil _ _ _ _, Keeps.refl _ _, Hid.of rfl⟩
  case round =>
    obtain ⟨c, K, hc, rfl, hKc, hO, hK1, HI⟩ := hrel
    obtain ⟨A', cap', rfl, -, -, -⟩ := hO.1.shape
    by_cases hlt : c < 24
    · have hkd : decide ((c : Int) < 24) = true := by simp; omega
      have hkd' : decide (c < 24) = true := by simpa using hlt
      have hki : (c : Int) < 24 := by omega
      have hk0 : (0 : Int) ≤ (c : Int) := by omega
      have hx := hix c hlt
      have J := HJ0.out.old hK1
      have q1 := Sh.size_any wr (X.sb c) (X.sv c) (H.F c) (J.h.slot c hlt)
      rw [J.h.slen c hlt] at q1
      have hsl := (Pc.slots_range hlt).2
      have HO := Hid.of (And.intro hO (And.intro hK1 (And.intro hKc hsl)))
      obtain ⟨n2, hn2⟩ : ∃ n2, Pc.slots c = n2 := ⟨_, rfl⟩
      rw [hn2] at q1 hsl
      have HN2 := Hid.of hn2
      clear hO hK1 J hn2 hKc
      go_wp2_with fail
      refine q1.mono ?_
      rintro e w1 ⟨rfl, rfl⟩
      clear q1 hx
      go_wp2_with fail
      go_loopw [2, 21] (fun v i wr => ∃ (s : Nat) (K : List Int), s ≤ n2 ∧ i = .int .i64 s ∧ K.length ≤ c * 8192 + s * 32 ∧ OutR 3 1 w.heap.size wr v K.length (ints K) ∧ Keeps (fun _ => False) w wr ∧ Hid (K = bl1 H c ++ bl2 H c s)) (fun _ i _ => n2 - (intOf i).toNat)
      case atStart => exact ⟨0, K, by omega, rfl, by have := HO.out.2.2.1; omega, HO.out.1, HO.out.2.1, Hid.of (by rw [HI.out]; simp [bl2])⟩
      case round =>
        obtain ⟨s, K2, hs, rfl, hKc2, hO2, hK2, HI2⟩ := hrel
        clear HI HO
        obtain ⟨A2, cap2, rfl, -, -, -⟩ := hO2.1.shape
        by_cases hlt2 : s < n2
        · have hsd : decide ((s : Int) < (n2 : Int)) = true := by simp; omega
          have J := HJ0.out.old hK2
          have t1 := Sh.taken_any wr (X.sb c) (X.sv c) (H.F c) s (J.h.slot c hlt)
          rw [Sh.taken_dec (H.F c) s (by rw [J.h.slen c hlt, HN2.out]; exact hlt2)] at t1
          have HS := Hid.of (bl2_snoc H c s)
          have HO2 := Hid.of (And.intro hO2 (And.intro hK2 hKc2))
          clear hO2 hK2 hKc2 J
          cases hfr : (H.F c).getD s false with
          | true =>
            rw [hfr, Bool.not_true] at t1
            have HL2 : Hid (K2 = bl1 H c ++ bl2 H c (s + 1)) := Hid.of (by rw [HS.out, hfr, if_pos rfl, List.append_nil]; exact HI2.out)
            clear hfr
            go_wp2_with fail
            refine t1.mono ?_
            rintro e w2 ⟨rfl, rfl⟩
            clear t1
            go_wp2_with fail
            go_roundw
            case rel => exact ⟨s + 1, K2, by omega, by go_num, by have := HO2.out.2.2; omega, HO2.out.1, HO2.out.2.1, HL2⟩
            case measure => simp [intOf]; omega
          | false =>
            rw [hfr, Bool.not_false] at t1
            have HL2 : Hid (bl1 H c ++ bl2 H c (s + 1) = K2 ++ bl3 H c s (Pc.nb c)) := Hid.of (by rw [HS.out, hfr, if_neg (by decide), ← List.append_assoc, ← HI2.out])
            have t2 := Pc.per_any wr c hlt
            have hmx := max_nb hlt
            obtain ⟨n3, hn3⟩ : ∃ n3, Pc.nb c = n3 := ⟨_, rfl⟩
            have hnb := (nb_le hlt).2
            rw [hn3] at HL2 hmx hnb
            have hm := fun ts ty w => run_max_int (P := Tryz.prog) ts ty 1 (Pc.per c : Int) w
            rw [hmx] at hm
            have HNB := Hid.of (And.intro hn3 (And.intro hnb hfr))
            clear hmx hn3 hnb hfr
            go_wp2_with fail
            refine t1.mono ?_
            rintro e w2 ⟨rfl, rfl⟩
            clear t1
            go_wp2_with fail
            refine t2.mono ?_
            rintro e w2 ⟨rfl, rfl⟩
            clear t2
            go_wp2_with fail
            have H3 := Hid.of (And.intro HO2.out.1 (And.intro HO2.out.2.1 HO2.out.2.2))
            clear HO2
            have hn32 : n3 ≤ 32 := HNB.out.2.1
            go_loopw [2, 31] (fun v i wr => ∃ (k : Nat) (K : List Int), k ≤ n3 ∧ i = .int .i64 k ∧ K.length ≤ c * 8192 + s * 32 + k ∧ OutR 3 1 w.heap.size wr v K.length (ints K) ∧ Keeps (fun _ => False) w wr ∧ Hid (K = K2 ++ bl3 H c s k)) (fun _ i _ => n3 - (intOf i).toNat)
            case atStart => exact ⟨0, K2, by omega, rfl, by have := H3.out.2.2; omega, H3.out.1, H3.out.2.1, Hid.of (by simp [bl3])⟩
            case round =>
              obtain ⟨k, K3, hk, rfl, hKc3, hO3, hK3, HI3⟩ := hrel
              clear H3
              obtain ⟨A3, cap3, rfl, -, -, -⟩ := hO3.1.shape
              by_cases hlt3 : k < n3
              · have hsd3 : decide ((k : Int) < (n3 : Int)) = true := by simp; omega
                have J := HJ0.out.old hK3
                have HS3 := Hid.of (bl3_snoc H c s k)
                have sl := fun n => small_load (J.h.old ((Keeps.refl _ _).drewN n))
                have t2 := fun n => (Pc.local_any (wr.drewN n) c s hlt (by rw [HN2.out]; exact hlt2)).mono (fun e w' (h : _ ∧ wr.drewN n = w') => And.intro h.1 h.2.symm)
                have t3 := fun n => (J.h.old ((Keeps.refl _ _).drewN n)).hasB (Pc.loc c s) k
                have lk := fun n => (J.h.old ((Keeps.refl _ _).drewN n)).look (Pc.loc c s)
                obtain ⟨-, -, -, -, c36⟩ := J.h.four
                have hke : hadK H c s k = (decide (8 ≤ c) || hasB H (Pc.loc c s) k) := rfl
                have q4 := fun wx => Pc.of_any wx c s k hlt (by omega) (by omega)
                rw [show Pc.ofR c s k = (((Pc.addr c s k : Nat) : Int), 0) from if_pos ⟨by rw [HN2.out]; exact hlt2, by rw [HNB.out.1]; exact hlt3⟩] at q4
                dsimp only at q4
                have HO3 := Hid.of (And.intro hO3 (And.intro hK3 hKc3))
                have HQ4 := Hid.of q4
                clear hO3 hK3 hKc3 J q4
                obtain ⟨nlc, hlc⟩ : ∃ nlc, Pc.loc c s = nlc := ⟨_, rfl⟩
                rw [hlc] at t2 t3 lk hke
                obtain ⟨nad, had⟩ : ∃ nad, Pc.addr c s k = nad := ⟨_, rfl⟩
                rw [had] at HQ4 HS3
                clear hlc had
                cases h8 : decide (8 ≤ c) with
                | true =>
                  have h8' : decide ((8 : Int) ≤ (c : Int)) = true := by simp at h8 ⊢; omega
                  rw [h8, Bool.true_or] at hke
                  have HL3 := Hid.of (show K3 ++ [(nad : Int)] = K2 ++ bl3 H c s (k + 1) by rw [HS3.out, hke, if_pos rfl, ← List.append_assoc, ← HI3.out])
                  clear hke t2 t3 lk c36 sl
                  go_wp2_with fail
                  go_quiet (fail)
                  obtain ⟨w4, hw4⟩ : ∃ w4, wr.drewN nq = w4 := ⟨_, rfl⟩
                  have H4 := Hid.of (show OutR 3 1 w.heap.size w4 (.slice A3 K3.length cap3) K3.length (ints K3) ∧ Keeps (fun _ => False) w w4 ∧ K3.length ≤ c * 8192 + s * 32 + k from by rw [← hw4]; exact ⟨HO3.out.1.old ((Keeps.refl _ _).drewN _), HO3.out.2.1.drewN _, HO3.out.2.2⟩)
                  have o4 := H4.out.1.1
                  have hlen4 : K3.length ≤ 300000 := by have := H4.out.2.2; omega
                  have q4 := HQ4.out w4
                  rw [hw4]
                  clear hw4 HO3
                  go_wp2_with fail
                  refine q4.mono ?_
                  rintro e w5 ⟨rfl, rfl⟩
                  clear q4
                  go_wp2_with (at_builtin; refine wpList_app1 slInts w4 rfl _ _ rfl (.slice A3 K3.length cap3) K3.length (ints K3) rfl o4 [.int .i64 nad] rfl rfl (by simp [Value.oneCell']) (by unfold maxLen; omega) (by omega) ?_; intro v5 w5 o5 k5 at5; have HF : Hid (OutR 3 1 w.heap.size w5 v5 (K3.length + 1) (ints K3 ++ [.int .i64 nad]) ∧ Keeps (fun _ => False) w w5) := Hid.of ⟨H4.out.1.app o5 at5 (H4.out.2.1.size), H4.out.1.keeps H4.out.2.1 k5⟩; clear o5 k5 at5)
                  go_roundw
                  case rel => exact ⟨k + 1, K3 ++ [(nad : Int)], by omega, by go_num, by have := H4.out.2.2; simp; omega, by rw [List.length_append, ints_append]; exact HF.out.1, HF.out.2, HL3⟩
                  case measure => simp [intOf]; omega
                | false =>
                  have h8' : decide ((8 : Int) ≤ (c : Int)) = false := by simp at h8 ⊢; omega
                  rw [h8, Bool.false_or] at hke
                  have HT2 := Hid.of t2
                  cases hhb : hasB H (nlc : Int) k with
                  | true =>
                    rw [hhb] at t3 hke
                    have HT3 := Hid.of t3
                    have HL3 := Hid.of (show K3 ++ [(nad : Int)] = K2 ++ bl3 H c s (k + 1) by rw [HS3.out, hke, if_pos rfl, ← List.append_assoc, ← HI3.out])
                    clear hke hhb t2 t3
                    go_wp2_with fail
                    go_quiet (first | (go_at_call 88; exact Calls.quiet_of_same (HT2.out _)) | (go_at_call 94; exact Calls.quiet_of_same (HT3.out _)))
                    clear lk sl c36
                    obtain ⟨w4, hw4⟩ : ∃ w4, wr.drewN nq = w4 := ⟨_, rfl⟩
                    have H4 := Hid.of (show OutR 3 1 w.heap.size w4 (.slice A3 K3.length cap3) K3.length (ints K3) ∧ Keeps (fun _ => False) w w4 ∧ K3.length ≤ c * 8192 + s * 32 + k from by rw [← hw4]; exact ⟨HO3.out.1.old ((Keeps.refl _ _).drewN _), HO3.out.2.1.drewN _, HO3.out.2.2⟩)
                    have o4 := H4.out.1.1
                    have hlen4 : K3.length ≤ 300000 := by have := H4.out.2.2; omega
                    have q4 := HQ4.out w4
                    rw [hw4]
                    clear hw4 HO3
                    go_wp2_with fail
                    refine q4.mono ?_
                    rintro e w5 ⟨rfl, rfl⟩
                    clear q4
                    go_wp2_with (at_builtin; refine wpList_app1 slInts w4 rfl _ _ rfl (.slice A3 K3.length cap3) K3.length (ints K3) rfl o4 [.int .i64 nad] rfl rfl (by simp [Value.oneCell']) (by unfold maxLen; omega) (by omega) ?_; intro v5 w5 o5 k5 at5; have HF : Hid (OutR 3 1 w.heap.size w5 v5 (K3.length + 1) (ints K3 ++ [.int .i64 nad]) ∧ Keeps (fun _ => False) w w5) := Hid.of ⟨H4.out.1.app o5 at5 (H4.out.2.1.size), H4.out.1.keeps H4.out.2.1 k5⟩; clear o5 k5 at5)
                    go_roundw
                    case rel => exact ⟨k + 1, K3 ++ [(nad : Int)], by omega, by go_num, by have := H4.out.2.2; simp; omega, by rw [List.length_append, ints_append]; exact HF.out.1, HF.out.2, HL3⟩
                    case measure => simp [intOf]; omega
                  | false =>
                    rw [hhb] at t3 hke
                    have HT3 := Hid.of t3
                    have HL3 := Hid.of (show K3 = K2 ++ bl3 H c s (k + 1) by rw [HS3.out, hke, if_neg (by decide), List.append_nil, ← HI3.out])
                    clear hke hhb t2 t3
                    go_wp2_with fail
                    go_quiet (first | (go_at_call 88; exact Calls.quiet_of_same (HT2.out _)) | (go_at_call 94; exact Calls.quiet_of_same (HT3.out _)))
                    clear lk sl c36
                    go_wp2
                    go_roundw
                    case rel => exact ⟨k + 1, K3, by omega, by go_num, by have := HO3.out.2.2; omega, HO3.out.1.old ((Keeps.refl _ _).drewN _), HO3.out.2.1.drewN _, HL3⟩
                    case measure => simp [intOf]; omega
              · obtain rfl : k = n3 := by omega
                have HL4 : Hid (K3 = bl1 H c ++ bl2 H c (s + 1)) := Hid.of (by rw [HL2.out, HI3.out])
                have HO3 := Hid.of (And.intro hO3 (And.intro hK3 hKc3))
                have hsd3 : decide ((k : Int) < (k : Int)) = false := by simp
                clear hO3 hK3 hKc3
                go_wp2_with fail
                go_roundw
                case rel => exact ⟨s + 1, K3, by omega, by go_num, by have := HO3.out.2.2; omega, HO3.out.1, HO3.out.2.1, HL4⟩
                case measure => simp [intOf]; omega
        · obtain rfl : s = n2 := by omega
          have HL4 : Hid (K2 = bl1 H (c + 1)) := Hid.of (by rw [bl1_snoc, HN2.out]; exact HI2.out)
          have HO2 := Hid.of (And.intro hO2 (And.intro hK2 hKc2))
          have hsd : decide ((s : Int) < (s : Int)) = false := by simp
          clear hO2 hK2 hKc2
          go_wp2_with fail
          go_roundw
          case rel => exact ⟨c + 1, K2, by omega, by go_num, by have := HO2.out.2.2; omega, HO2.out.1, HO2.out.2.1, HL4⟩
          case measure => simp [intOf]; omega
    · obtain rfl : c = 24 := by omega
      have HF := Hid.of (And.intro hO hK1)
      have HZ := Hid.of (show K = Rz by rw [HI.out, HR.out])
      clear hO hK1
      go_wp2_with fail
      go_ret
      have := HZ.out
      subst this
      exact ⟨_, rfl, HF.out.1, HF.out.2⟩
end
end Hin
end Go.Proofs.YtnheibcjcgacpaaGreatDoor

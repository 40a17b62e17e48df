/- The document's pool (garthref08): New, Window, Owner, turn, Grant, Shrink. -/
import Derived.Test.YtcjdejhjbelggaaDoorPoD
set_option linter.unusedVariables false
set_option linter.unusedSimpArgs false
namespace Go.Proofs.YtcjdejhjbelggaaDoor
open Go.RowKit Go.ChangeMaps
theorem ints_set (L : List Int) (c : Nat) (x : Int) : ints (L.set c x) = (ints L).set c (.int .i64 x) := by unfold ints; rw [List.map_set]
theorem int_at {w : World} {v : Value} {n : Nat} {L : List Int} (h : Own w 3 1 v n (ints L)) {i : Nat} (hi : i < n) : ∃ g cap, v = .slice (some ⟨g, 0, none⟩) n cap ∧ v.ownBlock = some g ∧ w.cell? ⟨g, i, none⟩ = some (.int .i64 (L.getD i 0)) := by
  have hl : L.length = n := by have := h.1; rw [ints_length] at this; omega
  obtain ⟨A, cap, hv, _, _, hc⟩ := h.shape
  obtain ⟨g, hA, hg, e⟩ := hc i (by omega)
  exact ⟨g, cap, by rw [hv, hA], hg, by rw [e, ints_get L i (by omega)]⟩
theorem make_ints (w : World) (m : Nat) (hm : m ≤ 1000000) : (Instr.makeSlice 31 (.int .i64 m) (.int .i64 m)).run Tryd.prog w = .ok (.slice (some ⟨w.heap.size, 0, none⟩) m m) (w.alloc (.cells (ints (List.replicate m 0)).toArray 3)) := by
  obtain ⟨i, z, hi, hz, h2, h3, h4⟩ := slInts.info
  have hz' : z = .int .i64 0 := by
    have h : (Tryd.prog.info? 3).map (fun i => i.zero) = some (some (.int .i64 0)) := by kernel_rfl
    rw [hi] at h; simp at h; rw [hz] at h; simpa using h
  subst hz'
  have := run_make (P := Tryd.prog) w 31 3 i _ slInts.ht hi hz .i64 .i64 m m (by omega) (by omega) (by rw [h3]; omega) (by omega)
  rw [this, h2]
  have e0 : madeCells #[Value.int IntKind.i64 0] m = (ints (List.replicate m 0)).toArray := by
    unfold ints
    apply Array.ext
    · simp [madeCells]
    · intro i h1 h2
      simp [madeCells, Nat.mod_one]
  have e : madeCells (Value.int IntKind.i64 0).cells ((m : Int).toNat * 1) = (ints (List.replicate m 0)).toArray := by
    rw [Int.toNat_natCast, Nat.mul_one]
    exact e0
  rw [e]; simp
theorem own_made_i (w : World) (m : Nat) (hm : m ≤ 1000000) : Own (w.alloc (.cells (ints (List.replicate m 0)).toArray 3)) 3 1 (.slice (some ⟨w.heap.size, 0, none⟩) m m) m (ints (List.replicate m 0)) :=
  ⟨by simp [ints], .inr ⟨w.heap.size, m, _, rfl, Nat.zero_le _, alloc_new _ _, Nat.le_refl _, by unfold maxLen; omega, by simp [ints], by simp [ints]⟩⟩
namespace Po
/-- The document's pool at q, its list in u. -/
structure RAt (w : World) (q : Nat) (u : Value) (Of : List Int) : Prop where
  cells : w.heap[q]? = some (.cells #[u] 84 (0, 0))
  row : Own w 3 1 u Of.length (ints Of)
  ne : u.ownBlock ≠ some q
  len : Of.length ≤ 32
def RFp (q : Nat) (u : Value) (x : Nat) : Prop := x = q ∨ u.ownBlock = some x
theorem RAt.keep {F : Nat → Prop} {w w' : World} {q : Nat} {u : Value} {Of : List Int} (h : RAt w q u Of) (hk : Keeps F w w') (hf : ∀ x, RFp q u x → ¬ F x) : RAt w' q u Of :=
  ⟨hk.at h.cells (hf q (.inl rfl)), h.row.keep hk (fun g hg => hf g (.inr hg)), h.ne, h.len⟩
theorem RAt.old {w w' : World} {q : Nat} {u : Value} {Of : List Int} (h : RAt w q u Of) (hk : Keeps (fun _ => False) w w') : RAt w' q u Of := h.keep hk (fun _ _ x => x)
theorem RAt.lt {w : World} {q : Nat} {u : Value} {Of : List Int} (h : RAt w q u Of) {x : Nat} (hx : RFp q u x) : x < w.heap.size := by
  rcases hx with rfl | hx
  · exact lt_of h.cells
  · exact h.row.lt hx
theorem win_snoc (Of : List Int) (o : Int) (j : Nat) : ((List.range (j + 1)).filter (fun c => Of.getD c (-2) == o)) = ((List.range j).filter (fun c => Of.getD c (-2) == o)) ++ (if Of.getD j (-2) = o then [j] else []) := by
  rw [List.range_succ, List.filter_append]
  congr 1
  rw [List.filter_cons, List.filter_nil]
  by_cases h : Of.getD j (-2) = o
  · rw [if_pos (beq_iff_eq.2 h), if_pos h]
  · rw [if_neg (fun e => h (beq_iff_eq.1 e)), if_neg h]
def RowR (w : World) (M : List Nat) (e : Ending) (w' : World) : Prop := ∃ v, e = .returned v ∧ OutR 3 1 w.heap.size w' v M.length (ints (zs M)) ∧ Keeps (fun _ => False) w w'
set_option maxRecDepth 100000 in
set_option maxHeartbeats 1000000 in
theorem rwindow_any (w : World) (q : Nat) (u : Value) (Of : List Int) (o : Int) (h : RAt w q u Of) :
    Calls Tryd.prog 21 #[.pointer (some ⟨q, 0, none⟩), .int .i64 o] w (RowR w (win Of o)) := by
  have hle := h.len
  obtain ⟨A, cap, hu, hr⟩ : ∃ A cap, u = .slice A Of.length cap ∧ Rd w A (ints Of) := by
    obtain ⟨A, cap, h1, _, _, h2⟩ := h.row.rd; exact ⟨A, cap, h1, h2⟩
  obtain ⟨n, hn⟩ : ∃ n, Of.length = n := ⟨_, rfl⟩
  have hc := h.cells
  rw [hu] at hc
  have HW : Hid (win Of o = (List.range n).filter (fun c => Of.getD c (-2) == o)) := Hid.of (by unfold win; rw [hn])
  have HN := Hid.of hn
  rw [hn] at hc hle
  have HC := Hid.of hc
  have HR := Hid.of hr
  generalize win Of o = M at *
  clear h hu hn hc hr
  go_enter Tryd.func21, Tryd.ntmps21
  go_wp2
  go_loopw [5, 6] (fun v i wr => ∃ (j : Nat) (L : List Nat), j ≤ n ∧ i = .int .i64 j ∧ L.length ≤ j ∧ OutR 3 1 w.heap.size wr v L.length (ints (zs L)) ∧ Keeps (fun _ => False) w wr ∧ Hid (L = (List.range j).filter (fun c => Of.getD c (-2) == o))) (fun _ i _ => n - (intOf i).toNat)
  case atStart => exact ⟨0, [], Nat.zero_le _, rfl, Nat.zero_le _, OutR.nil _ _ _ _, Keeps.refl _ _, Hid.of rfl⟩
  case round =>
    obtain ⟨j, L, hj, rfl, hLj, hO, hK, HL⟩ := hrel
    obtain ⟨A', cap', rfl, -, -, -⟩ := hO.1.shape
    have c0 := cell_of (v := .slice A n cap) (hK.at HC.out (fun x => x)) 0 rfl
    by_cases hlt : j < n
    · obtain ⟨b, oo, ss, rfl, he⟩ := rd_int (HR.out.old hK) j (by rw [HN.out]; exact hlt)
      have eg : Of.getD j (-2) = Of.getD j 0 := by rw [List.getD_eq_getElem?_getD, List.getD_eq_getElem?_getD, List.getElem?_eq_getElem (by rw [HN.out]; exact hlt)]; rfl
      have HS := Hid.of (win_snoc Of o j)
      rw [eg] at HS
      obtain ⟨x, hx⟩ : ∃ x, Of.getD j 0 = x := ⟨_, rfl⟩
      rw [hx] at he HS
      have hlti : (j : Int) < (n : Int) := by omega
      have hltn : decide (j < n) = true := by simpa using hlt
      have HO := Hid.of hO
      have HK := Hid.of hK
      have o1 := hO.1
      clear eg hx hO hK
      by_cases hxo : x = o
      · have hd : (x == o) = true := by simpa using hxo
        have HL2 : Hid (L ++ [j] = (List.range (j + 1)).filter (fun c => Of.getD c (-2) == o)) := Hid.of (by rw [HS.out, if_pos hxo, HL.out])
        clear hxo
        go_wp2_with (at_builtin; refine wpList_app1 slInts wr rfl _ _ rfl (.slice A' L.length cap') L.length (ints (zs L)) rfl o1 [.int .i64 (j : Int)] rfl rfl (by simp [Value.oneCell']) (by unfold maxLen; omega) (by omega) ?_; intro v5 w5 o5 k5 at5; have HF : Hid (OutR 3 1 w.heap.size w5 v5 (L.length + 1) (ints (zs L) ++ [.int .i64 (j : Int)]) ∧ Keeps (fun _ => False) w w5) := Hid.of ⟨HO.out.app o5 at5 (HK.out.size), HO.out.keeps HK.out k5⟩; clear o5 k5 at5)
        go_roundw
        case rel => exact ⟨j + 1, L ++ [j], by omega, by go_num, by simp; omega, by rw [List.length_append, zs_append, ints_append]; exact HF.out.1, HF.out.2, HL2⟩
        case measure => simp [intOf]; omega
      · have hd : (x == o) = false := by simpa using hxo
        have HL2 : Hid (L = (List.range (j + 1)).filter (fun c => Of.getD c (-2) == o)) := Hid.of (by rw [HS.out, if_neg hxo, List.append_nil, HL.out])
        clear hxo o1
        go_wp2
        go_roundw
        case rel => exact ⟨j + 1, L, by omega, by go_num, by omega, HO.out, HK.out, HL2⟩
        case measure => simp [intOf]; omega
    · obtain rfl : j = n := by omega
      have hl1 : ¬ ((j : Int) < (j : Int)) := by omega
      have HF : Hid (OutR 3 1 w.heap.size wr (.slice A' L.length cap') M.length (ints (zs M)) ∧ Keeps (fun _ => False) w wr) := Hid.of ⟨by rw [HW.out, ← HL.out]; exact hO, hK⟩
      clear hO hK
      go_wp2
      go_ret
      exact ⟨_, rfl, HF.out⟩
set_option maxRecDepth 100000 in
set_option maxHeartbeats 1000000 in
theorem rowner_any (w : World) (q : Nat) (u : Value) (Of : List Int) (x : Int) (h : RAt w q u Of) :
    Calls Tryd.prog 22 #[.pointer (some ⟨q, 0, none⟩), .int .i64 x] w fun e w' => e = .returned (.int .i64 (ownerL Of x)) ∧ w = w' := by
  have hle := h.len
  obtain ⟨A, cap, hu, hr⟩ : ∃ A cap, u = .slice A Of.length cap ∧ Rd w A (ints Of) := by
    obtain ⟨A, cap, h1, _, _, h2⟩ := h.row.rd; exact ⟨A, cap, h1, h2⟩
  obtain ⟨n, hn⟩ : ∃ n, Of.length = n := ⟨_, rfl⟩
  have c0 := cell_of (v := u) h.cells 0 rfl
  rw [hu, hn] at c0
  have hcs : x < 0 ∨ (0 ≤ x ∧ (n : Int) ≤ x) ∨ (0 ≤ x ∧ x < n) := by omega
  obtain ⟨r, hR⟩ : ∃ r, ownerL Of x = r := ⟨_, rfl⟩
  rw [hR]
  have HR := Hid.of hR
  rw [hn] at hle
  rcases hcs with h1 | ⟨h1, h2⟩ | ⟨h1, h2⟩
  · obtain rfl : r = -1 := by rw [← hR]; unfold ownerL; rw [if_neg (by omega)]
    have d1 : decide (x < 0) = true := by simpa using h1
    clear h hu hn hr hR
    go_enter Tryd.func22, Tryd.ntmps22
    go_wp2
    go_ret
    exact ⟨rfl, rfl⟩
  · obtain rfl : r = -1 := by rw [← hR]; unfold ownerL; rw [if_neg (by omega)]
    have d1 : decide (x < 0) = false := by simp; omega
    have d2 : decide ((n : Int) ≤ x) = true := by simpa using h2
    clear h hu hn hr hR
    go_enter Tryd.func22, Tryd.ntmps22
    go_wp2
    go_ret
    exact ⟨rfl, rfl⟩
  · obtain ⟨c, rfl⟩ : ∃ c : Nat, x = c := ⟨x.toNat, by omega⟩
    have hcl : c < Of.length := by omega
    obtain ⟨b, oo, ss, rfl, he⟩ := rd_int hr c hcl
    have hr2 : Of.getD c 0 = r := by
      rw [← hR]; unfold ownerL
      rw [if_pos (by omega), Int.toNat_natCast, List.getD_eq_getElem?_getD, List.getD_eq_getElem?_getD, List.getElem?_eq_getElem hcl]; rfl
    rw [hr2] at he
    have d1 : decide ((c : Int) < 0) = false := by simp
    have d2 : decide (n ≤ c) = false := by simp; omega
    clear h hu hn hr hR hcl hr2 h1
    go_enter Tryd.func22, Tryd.ntmps22
    go_wp2
    go_ret
    exact ⟨rfl, rfl⟩
end Po
end Go.Proofs.YtcjdejhjbelggaaDoor

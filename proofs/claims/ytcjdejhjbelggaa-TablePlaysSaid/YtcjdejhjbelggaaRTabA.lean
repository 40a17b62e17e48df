/- The document's table (garthref15): pairs in a struct's one field. Find, Holder. -/
import Derived.Test.YtcjdejhjbelggaaTabE
import Derived.Laws.EntriesVeiled
set_option linter.unusedVariables false
set_option linter.unusedSimpArgs false
namespace Go.Proofs.Ytcjdejhjbelggaa
open Go.RowKit Go.ChangeMaps
namespace RTab
def enc (p : Int × Int) : List Value := [.int .i64 p.1, .int .i64 p.2]
def prs (L : Tab.Prs) : List Value := L.flatMap enc
theorem slPairs : SlT Try.prog 27 55 2 16 := SlT.mk' (z := .agg #[.int .i64 0, .int .i64 0]) Try.underlying27 (by kernel_rfl) rfl (by decide)
def At (w : World) (b : Nat) (v : Value) (L : Tab.Prs) : Prop :=
  w.heap[b]? = some (.cells #[v] 29 (0, 0)) ∧ Own w 55 2 v L.length (prs L) ∧ v.ownBlock ≠ some b
theorem At.keep {F : Nat → Prop} {w w' : World} {b : Nat} {v : Value} {L : Tab.Prs} (h : At w b v L) (hk : Keeps F w w') (hb : ¬ F b) (hv : ∀ g, v.ownBlock = some g → ¬ F g) : At w' b v L :=
  ⟨hk.at h.1 hb, h.2.1.keep hk hv, h.2.2⟩
theorem At.old {w w' : World} {b : Nat} {v : Value} {L : Tab.Prs} (h : At w b v L) (hk : Keeps (fun _ => False) w w') : At w' b v L := h.keep hk (fun x => x) (fun _ _ x => x)
/-- An own slice of records: its address, and what is read there. -/
theorem own_rd {e sz : Nat} {w : World} {v : Value} {n : Nat} {cs : List Value} (h : Own w e sz v n cs) : ∃ A cap, v = .slice A n cap ∧ n ≤ cap ∧ (∀ ad, A = some ad → v.ownBlock = some ad.block) ∧ Rd w A cs := by
  obtain ⟨A, cap, hv, hc, hn, hr⟩ := h.shape
  refine ⟨A, cap, hv, hc, fun ad ha => by rw [hv, ha]; rfl, fun j u hu => ?_⟩
  have hj : j < n * sz := by
    rcases Nat.lt_or_ge j (n * sz) with hh | hh
    · exact hh
    · rw [List.getElem?_eq_none (by rw [h.length]; exact hh)] at hu; simp at hu
  obtain ⟨g, hA, hg, he⟩ := hr j hj
  refine ⟨_, hA, ?_⟩
  rw [addr_add, Nat.zero_add, he]; exact hu
theorem rpr {w : World} {A : Option Addr} {xs : Tab.Prs} (h : Rd w A (prs xs)) (j : Nat) (hj : j < xs.length) :
    ∃ b o s x y, xs[j]? = some (x, y) ∧ A = some ⟨b, o, s⟩ ∧ w.cell? ((⟨b, o, s⟩ : Addr).add (j * 2)) = some (.int .i64 x) ∧ w.cell? ⟨((⟨b, o, s⟩ : Addr).add (j * 2)).block, ((⟨b, o, s⟩ : Addr).add (j * 2)).off + 1, none⟩ = some (.int .i64 y) := by
  have e := List.getElem?_eq_getElem hj
  have g := flatMap_get enc 2 (fun _ => rfl) xs j _ e
  obtain ⟨ad, rfl, h0⟩ := h _ _ (g 0 (by omega))
  obtain ⟨a1, q, h1⟩ := h _ _ (g 1 (by omega)); cases q
  exact ⟨_, _, _, _, _, e, rfl, h0, cell_field (by omega) h1⟩
/-- The first pair with that local page; with that page. -/
def byV (L : Tab.Prs) (v : Int) : Int := ((L.find? fun q => q.1 == v).map (·.2)).getD (-1)
def byP (L : Tab.Prs) (p : Int) : Int := ((L.find? fun q => q.2 == p).map (·.1)).getD (-1)
theorem find_at {L : Tab.Prs} {f : Int × Int → Bool} {j : Nat} {q : Int × Int} (hT : ∀ x ∈ L.take j, f x = false) (hq : L[j]? = some q) (hf : f q = true) : L.find? f = some q := by
  have e : L = L.take j ++ q :: L.drop (j + 1) := by
    have h1 := List.take_append_drop (j + 1) L
    rw [List.take_add_one, hq] at h1
    simpa using h1.symm
  have h0 : (L.take j).find? f = none := List.find?_eq_none.2 (fun x hx => by rw [hT x hx]; simp)
  rw [e, List.find?_append, h0, List.find?_cons, hf]; rfl
theorem take_step {L : Tab.Prs} {f : Int × Int → Bool} {j : Nat} {q : Int × Int} (hT : ∀ x ∈ L.take j, f x = false) (hq : L[j]? = some q) (hf : f q = false) : ∀ x ∈ L.take (j + 1), f x = false := by
  rw [List.take_add_one, hq]
  intro x hx
  rcases List.mem_append.1 hx with h | h
  · exact hT x h
  · simp at h; rw [h]; exact hf

set_option maxRecDepth 100000 in
set_option maxHeartbeats 1000000 in
theorem find_any (w : World) (b : Nat) (v : Value) (L : Tab.Prs) (k : Int) (h : At w b v L) :
    Calls Try.prog 18 #[.pointer (some ⟨b, 0, none⟩), .int .i64 k] w fun e w' => e = .returned (.int .i64 (byV L k)) ∧ w = w' := by
  obtain ⟨hb, ho, hne⟩ := h
  have hlen := ho.maxLen
  unfold maxLen at hlen
  obtain ⟨A, cap, rfl, hcap, hA, rd⟩ := own_rd ho
  have c0 := cell_of hb 0 rfl
  have HB : Hid (byV L k = ((L.find? fun q => q.1 == k).map (·.2)).getD (-1)) := rfl
  clear hb ho hne
  generalize byV L k = r at *
  go_enter Try.func18, Try.ntmps18
  go_wp2
  go_loop [5] (fun i => ∃ j : Nat, j ≤ L.length ∧ i = .int .i64 j ∧ Hid (∀ x ∈ L.take j, (x.1 == k) = false)) (fun i => L.length - (intOf i).toNat)
  case atStart => exact ⟨0, Nat.zero_le _, rfl, Hid.of (by simp)⟩
  case round =>
    obtain ⟨j, hj, rfl, hT⟩ := hrel
    by_cases hlt : j < L.length
    · obtain ⟨b1, o1, s1, x, y, hg, rfl, hc1, hc2⟩ := rpr rd j hlt
      have hk1 : decide ((j : Int) < L.length) = true := by simp; omega
      by_cases hxk : x = k
      · have hxk' : (x == k) = true := by simp [hxk]
        have HX : Hid (r = y) := by
          refine Hid.of ?_
          rw [HB.out, find_at hT.out hg hxk']; rfl
        clear hxk hg
        go_wp2
        go_ret
        exact ⟨by rw [HX.out]; rfl, rfl⟩
      · have hxk' : (x == k) = false := by simp [hxk]
        have HX := Hid.of (take_step (f := fun q => q.1 == k) hT.out hg hxk')
        clear hxk hg
        go_wp2
        go_round
        case rel => exact ⟨j + 1, by omega, by go_num, HX⟩
        case measure => simp [intOf]; omega
    · have hje : j = L.length := by omega
      have hk1 : decide ((j : Int) < L.length) = false := by simp; omega
      have HX : Hid (r = -1) := by
        refine Hid.of ?_
        have h0 : (L.find? fun q => q.1 == k) = none := List.find?_eq_none.2 (fun x hx => by
          have := hT.out x (by rw [List.take_of_length_le (by omega)]; exact hx)
          rw [this]; simp)
        rw [HB.out, h0]; rfl
      clear hje
      go_wp2
      go_ret
      exact ⟨by rw [HX.out]; rfl, rfl⟩

set_option maxRecDepth 100000 in
set_option maxHeartbeats 1000000 in
theorem holder_any (w : World) (b : Nat) (v : Value) (L : Tab.Prs) (k : Int) (h : At w b v L) :
    Calls Try.prog 20 #[.pointer (some ⟨b, 0, none⟩), .int .i64 k] w fun e w' => e = .returned (.int .i64 (byP L k)) ∧ w = w' := by
  obtain ⟨hb, ho, hne⟩ := h
  have hlen := ho.maxLen
  unfold maxLen at hlen
  obtain ⟨A, cap, rfl, hcap, hA, rd⟩ := own_rd ho
  have c0 := cell_of hb 0 rfl
  have HB : Hid (byP L k = ((L.find? fun q => q.2 == k).map (·.1)).getD (-1)) := rfl
  clear hb ho hne
  generalize byP L k = r at *
  go_enter Try.func20, Try.ntmps20
  go_wp2
  go_loop [5] (fun i => ∃ j : Nat, j ≤ L.length ∧ i = .int .i64 j ∧ Hid (∀ x ∈ L.take j, (x.2 == k) = false)) (fun i => L.length - (intOf i).toNat)
  case atStart => exact ⟨0, Nat.zero_le _, rfl, Hid.of (by simp)⟩
  case round =>
    obtain ⟨j, hj, rfl, hT⟩ := hrel
    by_cases hlt : j < L.length
    · obtain ⟨b1, o1, s1, x, y, hg, rfl, hc1, hc2⟩ := rpr rd j hlt
      have hk1 : decide ((j : Int) < L.length) = true := by simp; omega
      by_cases hxk : y = k
      · have hxk' : (y == k) = true := by simp [hxk]
        have HX : Hid (r = x) := by
          refine Hid.of ?_
          rw [HB.out, find_at hT.out hg hxk']; rfl
        clear hxk hg
        go_wp2
        go_ret
        exact ⟨by rw [HX.out]; rfl, rfl⟩
      · have hxk' : (y == k) = false := by simp [hxk]
        have HX := Hid.of (take_step (f := fun q => q.2 == k) hT.out hg hxk')
        clear hxk hg
        go_wp2
        go_round
        case rel => exact ⟨j + 1, by omega, by go_num, HX⟩
        case measure => simp [intOf]; omega
    · have hje : j = L.length := by omega
      have hk1 : decide ((j : Int) < L.length) = false := by simp; omega
      have HX : Hid (r = -1) := by
        refine Hid.of ?_
        have h0 : (L.find? fun q => q.2 == k) = none := List.find?_eq_none.2 (fun x hx => by
          have := hT.out x (by rw [List.take_of_length_le (by omega)]; exact hx)
          rw [this]; simp)
        rw [HB.out, h0]; rfl
      clear hje
      go_wp2
      go_ret
      exact ⟨by rw [HX.out]; rfl, rfl⟩
end RTab
end Go.Proofs.Ytcjdejhjbelggaa

/- Slices that are read, wherever they lie. -/
import Derived.Test.YtnheibcjcgacpaaGreatDoorRows
import Derived.Test.YtnheibcjcgacpaaGreatDoorSlice
import Derived.WalkLawsBesides
import Derived.BigQuiet
import Derived.Deep.QuietTactic
import Derived.Deep.LoopGhost
set_option linter.unusedVariables false
set_option linter.unusedSimpArgs false
namespace Go.Proofs.YtnheibcjcgacpaaGreatDoor
open Go.RowKit Go.ChangeMaps
def ints (L : List Int) : List Value := L.map (Value.int .i64)
theorem ints_append (L M : List Int) : ints (L ++ M) = ints L ++ ints M := by simp [ints]
theorem ints_length (L : List Int) : (ints L).length = L.length := by simp [ints]
theorem ints_get (L : List Int) (i : Nat) (h : i < L.length) : (ints L)[i]? = some (.int .i64 (L.getD i 0)) := by
  simp [ints, List.getElem?_map, List.getElem?_eq_getElem h, List.getD_eq_getElem?_getD]

/-- The cells from A on read so. -/
def Rd (w : World) (A : Option Addr) (cs : List Value) : Prop := ∀ j u, cs[j]? = some u → ∃ ad, A = some ad ∧ w.cell? (ad.add j) = some u
theorem addr_add (b o j : Nat) : (⟨b, o, none⟩ : Addr).add j = ⟨b, o + j, none⟩ := by
  unfold Addr.add
  split
  · rename_i h; subst h; rfl
  · rfl
theorem block_add (a : Addr) (j : Nat) : (a.add j).block = a.block := by unfold Addr.add; split <;> rfl
theorem Rd.nil (w : World) (A : Option Addr) : Rd w A [] := by intro j u h; simp at h
theorem Rd.keep {F : Nat → Prop} {w w' : World} {A : Option Addr} {cs : List Value} (h : Rd w A cs) (hk : Keeps F w w') (hf : ∀ ad, A = some ad → ad.block < w.heap.size → ¬ F ad.block) : Rd w' A cs := by
  intro j u hu
  obtain ⟨ad, rfl, hc⟩ := h j u hu
  refine ⟨ad, rfl, ?_⟩
  have hlt : ad.block < w.heap.size := by have := World.block_lt_of_cell? w _ hc; rwa [block_add] at this
  have : w'.heap[(ad.add j).block]? = w.heap[(ad.add j).block]? := by rw [block_add]; exact hk.block _ hlt (hf ad rfl hlt)
  rw [World.cell?_of_block this]; exact hc
theorem Rd.old {w w' : World} {A : Option Addr} {cs : List Value} (h : Rd w A cs) (hk : Keeps (fun _ => False) w w') : Rd w' A cs := h.keep hk (fun _ _ _ x => x)
theorem Own.rd {w : World} {e : Nat} {v : Value} {n : Nat} {xs : List Value} (h : Own w e 1 v n xs) : ∃ A cap, v = .slice A n cap ∧ n ≤ cap ∧ (∀ ad, A = some ad → v.ownBlock = some ad.block) ∧ Rd w A xs := by
  obtain ⟨A, cap, hv, hc, hn, hr⟩ := h.shape
  refine ⟨A, cap, hv, hc, fun ad ha => by rw [hv, ha]; rfl, fun j u hu => ?_⟩
  have hl := h.length
  have hj : j < xs.length := by
    rcases Nat.lt_or_ge j xs.length with h | h
    · exact h
    · rw [List.getElem?_eq_none h] at hu; cases hu
  obtain ⟨g, hg, _, hcell⟩ := hr j (by omega)
  refine ⟨_, hg, ?_⟩
  rw [addr_add]
  simpa [hcell] using hu
theorem rd_lit (w : World) (xs : List Value) (t : TypeId) : Rd (w.alloc (.cells xs.toArray t)) (some ⟨w.heap.size, 0, none⟩) xs :=
  fun j u hu => ⟨_, rfl, cells_new w xs t j u hu⟩
theorem rd_int {w : World} {A : Option Addr} {L : List Int} (h : Rd w A (ints L)) (i : Nat) (hi : i < L.length) : ∃ b o s, A = some ⟨b, o, s⟩ ∧ w.cell? ((⟨b, o, s⟩ : Addr).add i) = some (.int .i64 (L.getD i 0)) := by
  obtain ⟨ad, ha, hc⟩ := h i _ (ints_get L i hi)
  exact ⟨ad.block, ad.off, ad.spot, ha, hc⟩
end Go.Proofs.YtnheibcjcgacpaaGreatDoor

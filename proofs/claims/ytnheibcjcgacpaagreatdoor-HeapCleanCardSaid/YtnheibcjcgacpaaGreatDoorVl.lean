/- What view reads and writes of local bytes; a block written, a block read. -/
import Derived.Test.YtnheibcjcgacpaaGreatDoorOth
import Derived.Test.YtnheibcjcgacpaaGreatDoorVwB
set_option linter.unusedVariables false
set_option linter.unusedSimpArgs false
namespace Go.Proofs.YtnheibcjcgacpaaGreatDoor
open Go.RowKit Go.ChangeMaps
namespace Vw
open Hin Vs Pgi
open He (T3 hadB HG HJ)
def ad (s : Sp) : List Nat := (List.range (n0 s)).map (at0 s + ·)
def adL (L : List Sp) : List Nat := L.flatMap ad
theorem dn_all (L : List Sp) : dn L L.length = (L.map (·.n)).sum := by unfold dn; rw [List.take_length]
theorem ad_len (s : Sp) : (ad s).length = n0 s := by unfold ad; rw [List.length_map, List.length_range]
/-- Where local bytes lie that all have a page. -/
structure Pcs (E : Tab.Prs) (N a n : Nat) (L : List Sp) : Prop where
  fit : Fit N L
  sum : dn L L.length = (n : Int)
  len : L.length * 512 ≤ a % 512 + n + 511
  ad : adL L = (List.range n).map (fun i => lad E (a + i))
  pg : ∀ s ∈ L, ∃ i, i < n ∧ ∃ x : Nat, eget E (((a + i) / 512 : Nat) : Int) = some (x : Int) ∧ x * 512 ≤ at0 s ∧ at0 s + n0 s ≤ x * 512 + 512
set_option maxRecDepth 100000 in
theorem pcs_cov {E : Tab.Prs} {N : Nat} : ∀ (f a n : Nat), n ≤ f → (∀ i, i < n → ∃ x : Nat, eget E (((a + i) / 512 : Nat) : Int) = some (x : Int) ∧ x * 512 + 512 ≤ N) → ∃ L, Tab.pcs E f (a : Int) (n : Int) = some L ∧ Pcs E N a n L
  | 0, a, n, hn, _ => by
    obtain rfl : n = 0 := by omega
    exact ⟨[], rfl, fun s hs => by simp at hs, rfl, by simp, rfl, fun s hs => by simp at hs⟩
  | f + 1, a, n, hn, hc => by
    by_cases h0 : n = 0
    · subst h0
      refine ⟨[], ?_, fun s hs => by simp at hs, rfl, by simp, rfl, fun s hs => by simp at hs⟩
      unfold Tab.pcs
      rw [if_pos (by omega)]
    · obtain ⟨x, hx, hN⟩ := hc 0 (by omega)
      rw [Nat.add_zero] at hx
      have hfd := Tab.fnd_some hx
      have e1 : (a : Int) / 512 = ((a / 512 : Nat) : Int) := by omega
      have e2 : (a : Int) % 512 = ((a % 512 : Nat) : Int) := by omega
      obtain ⟨k, hk⟩ : ∃ k, (if 512 - a % 512 < n then 512 - a % 512 else n) = k := ⟨_, rfl⟩
      have hm := Nat.mod_lt a (show 512 > 0 by omega)
      have e3 : Tab.least (n : Int) ((a % 512 : Nat) : Int) = (k : Int) := by
        unfold Tab.least
        split <;> split at hk <;> omega
      have hk1 : 1 ≤ k ∧ k ≤ n ∧ a % 512 + k ≤ 512 ∧ (k = n ∨ k = 512 - a % 512) := by split at hk <;> omega
      obtain ⟨L, hL, q⟩ := pcs_cov (E := E) (N := N) f (a + k) (n - k) (by omega) (fun i hi => by
        obtain ⟨y, y1, y2⟩ := hc (k + i) (by omega)
        exact ⟨y, by rw [Nat.add_assoc]; exact y1, y2⟩)
      have e4 : (a : Int) + (k : Int) = ((a + k : Nat) : Int) := by omega
      have e5 : (n : Int) - (k : Int) = ((n - k : Nat) : Int) := by omega
      refine ⟨⟨((x * 512 + a % 512 : Nat) : Int), (k : Int), false⟩ :: L, ?_, ?_, ?_, ?_, ?_, ?_⟩
      · unfold Tab.pcs
        rw [if_neg (by omega), e1, e2, hfd, if_neg (by omega), e3, e4, e5, hL]
        show some _ = some _
        congr 3
      · intro s hs
        rcases List.mem_cons.1 hs with e | e
        · subst e
          show (0 : Int) ≤ ((x * 512 + a % 512 : Nat) : Int) ∧ (0 : Int) ≤ (k : Int) ∧ ((x * 512 + a % 512 : Nat) : Int) + (k : Int) ≤ (N : Int)
          omega
        · exact q.fit s e
      · have := q.sum
        rw [dn_all] at this ⊢
        rw [List.map_cons, List.sum_cons, this]
        show (k : Int) + _ = _
        omega
      · have h1 := q.len
        rw [List.length_cons]
        rcases hk1.2.2.2 with e | e
        · have hz : L.length = 0 := by
            have hs := q.sum
            rw [show n - k = 0 by omega] at hL
            have : L = [] := by
              cases f with
              | zero => simpa [Tab.pcs] using hL.symm
              | succ f => simpa [Tab.pcs] using hL.symm
            rw [this]; rfl
          omega
        · have : (a + k) % 512 = 0 := by omega
          omega
      · show ad _ ++ adL L = _
        rw [q.ad]
        have er : List.range n = List.range k ++ (List.range (n - k)).map (k + ·) := by
          conv => lhs; rw [show n = k + (n - k) by omega]
          rw [List.range_add]
        rw [er, List.map_append, List.map_map]
        congr 1
        · show (List.range k).map _ = _
          refine List.map_congr_left (fun i hi => ?_)
          have hi := List.mem_range.1 hi
          unfold lad
          have d1 : (a + i) / 512 = a / 512 := by omega
          have d2 : (a + i) % 512 = a % 512 + i := by omega
          rw [d1, d2, hfd, Int.toNat_natCast]
          show ((x * 512 + a % 512 : Nat) : Int).toNat + i = _
          rw [Int.toNat_natCast]; omega
        · refine List.map_congr_left (fun i hi => ?_)
          show lad E (a + k + i) = lad E (a + (k + i))
          rw [Nat.add_assoc]
      · intro s hs
        rcases List.mem_cons.1 hs with e | e
        · subst e
          refine ⟨0, by omega, x, by rw [Nat.add_zero]; exact hx, ?_, ?_⟩
          · show _ ≤ ((x * 512 + a % 512 : Nat) : Int).toNat; rw [Int.toNat_natCast]; omega
          · show ((x * 512 + a % 512 : Nat) : Int).toNat + (k : Int).toNat ≤ _; rw [Int.toNat_natCast, Int.toNat_natCast]; omega
        · obtain ⟨i, hi, y, y1, y2, y3⟩ := q.pg s e
          exact ⟨k + i, by omega, y, by rw [← Nat.add_assoc]; exact y1, y2, y3⟩
theorem pieces_cov {E : Tab.Prs} {N a n : Nat} (h1 : 131072 ≤ a) (h2 : a + n ≤ 3276800) (hc : ∀ i, i < n → ∃ x : Nat, eget E (((a + i) / 512 : Nat) : Int) = some (x : Int) ∧ x * 512 + 512 ≤ N) : ∃ L, Tab.pieces E (a : Int) (n : Int) = some L ∧ Pcs E N a n L := by
  obtain ⟨L, hL, q⟩ := pcs_cov (E := E) (N := N) n a n (Nat.le_refl _) hc
  refine ⟨L, ?_, q⟩
  unfold Tab.pieces
  rw [if_pos (by unfold Tab.within; rw [decide_eq_true_eq]; omega), Int.toNat_natCast]
  exact hL
theorem rdS_ad {B : Bs} {s : Sp} (h : at0 s + n0 s ≤ B.length) : rdS B s = (ad s).map (fun q => B.getD q 0) := by
  unfold rdS ad
  rw [List.map_map]
  refine List.ext_getElem? fun i => ?_
  rw [List.getElem?_take, List.getElem?_map]
  by_cases hi : i < n0 s
  · rw [if_pos hi, List.getElem?_drop, List.getElem?_range hi]
    show _ = some (B.getD (at0 s + i) 0)
    rw [List.getD_eq_getElem?_getD, List.getElem?_eq_getElem (by omega)]
    rfl
  · rw [if_neg hi, List.getElem?_eq_none (by rw [List.length_range]; omega)]; rfl
theorem fit_nat {N : Nat} {L : List Sp} (h : Fit N L) {s : Sp} (hs : s ∈ L) : at0 s + n0 s ≤ N := by
  obtain ⟨h1, h2, h3⟩ := h s hs
  unfold at0 n0; omega
theorem rdL_ad {B : Bs} : ∀ {L : List Sp}, Fit B.length L → rdL B L = (adL L).map (fun q => B.getD q 0)
  | [], _ => rfl
  | s :: L, h => by
    have ih := rdL_ad (B := B) (L := L) (fun x hx => h x (List.mem_cons_of_mem _ hx))
    show rdS B s ++ rdL B L = ((ad s) ++ adL L).map _
    rw [List.map_append, ih, rdS_ad (fit_nat h List.mem_cons_self)]
theorem read_law {E : Tab.Prs} {B : Bs} {a n : Nat} {L : List Sp} (q : Pcs E B.length a n L) : rdL B L = (List.range n).map (fun i => B.getD (lad E (a + i)) 0) := by
  rw [rdL_ad q.fit, q.ad, List.map_map]
  rfl
theorem adL_len (L : List Sp) {N : Nat} (h : Fit N L) : ∀ k, k ≤ L.length → (((adL (L.take k)).length : Nat) : Int) = dn L k
  | 0, _ => rfl
  | k + 1, hk => by
    have ih := adL_len L h k (by omega)
    obtain ⟨a, n, h1, h2, h3, h4, h5⟩ := h.at (j := k) hk
    rw [dn_succ L k hk, ← ih, h2, List.take_add_one, List.getElem?_eq_getElem hk]
    show (((L.take k ++ [L[k]]).flatMap ad).length : Int) = _
    rw [List.flatMap_append, List.length_append]
    show (((adL (L.take k)).length + (ad L[k] ++ []).length : Nat) : Int) = _
    rw [List.append_nil, ad_len]
    have : L.getD k ⟨0, 0, false⟩ = L[k] := by rw [List.getD_eq_getElem?_getD, List.getElem?_eq_getElem hk]; rfl
    rw [this] at h5
    rw [h5]; omega
theorem bput_in {C d : Bs} {a i : Nat} (hd : a + d.length ≤ C.length) (hi : i < d.length) : (bput C a d).getD (a + i) 0 = d.getD i 0 := by
  rw [List.getD_eq_getElem?_getD, List.getD_eq_getElem?_getD, Ar.bput_get _ _ _ _ hd, if_neg (by omega), if_pos (by omega)]
  congr 2; omega
/-- What was written. -/
theorem write_ad {S : Ar.AS} {data : Bs} {L : List Sp} (hf : Fit S.B.length L) (hs : dn L L.length = (data.length : Int)) (hN : S.B.length ≤ 2097152) (hL : L.length ≤ 1000) (hnd : (adL L).Nodup) : ∀ k, k ≤ L.length →
    (∀ q, q ∉ adL (L.take k) → (writeS S data L k).B.getD q 0 = S.B.getD q 0) ∧ (∀ j (hj : j < (adL (L.take k)).length), (writeS S data L k).B.getD ((adL (L.take k))[j]) 0 = data.getD j 0)
  | 0, _ => ⟨fun q _ => rfl, fun j hj => by simp [adL] at hj⟩
  | k + 1, hk => by
    obtain ⟨i1, i2⟩ := write_ad hf hs hN hL hnd k (by omega)
    obtain ⟨w1, w2⟩ := write_len (data := data) hf hs hN hL k (by omega)
    obtain ⟨a, n, h1, h2, h3, h4, h5⟩ := hf.at (j := k) hk
    have hlk := adL_len L hf k (by omega)
    have hlk1 := adL_len L hf (k + 1) hk
    have hmo := dn_mono hf (i := k + 1) L.length (by omega) (Nat.le_refl _)
    have hd1 := dn_succ L k hk
    rw [h2] at hd1
    have eg : L.getD k ⟨0, 0, false⟩ = L[k] := by rw [List.getD_eq_getElem?_getD, List.getElem?_eq_getElem hk]; rfl
    have et : adL (L.take (k + 1)) = adL (L.take k) ++ ad L[k] := by
      rw [List.take_add_one, List.getElem?_eq_getElem hk]
      show (L.take k ++ [L[k]]).flatMap ad = _
      rw [List.flatMap_append]
      show _ ++ (ad L[k] ++ []) = _
      rw [List.append_nil]; rfl
    have hsub : (adL (L.take (k + 1))).Nodup := by
      have : adL L = adL (L.take (k + 1)) ++ adL (L.drop (k + 1)) := by
        unfold adL; rw [← List.flatMap_append, List.take_append_drop]
      rw [this, List.nodup_append] at hnd
      exact hnd.1
    obtain ⟨ck, hck⟩ : ∃ ck, (data.drop (dn L k).toNat).take n = ck := ⟨_, rfl⟩
    have hcl : ck.length = n := by rw [← hck, List.length_take, List.length_drop]; omega
    have ew : (writeS S data L (k + 1)).B = bput (writeS S data L k).B a ck := by
      show bput _ (at0 _) ((data.drop _).take (n0 _)) = _
      rw [h4, h5, hck]
    rw [eg] at h4 h5
    have had : ad L[k] = (List.range n).map (a + ·) := by unfold ad; rw [h4, h5]
    rw [ew]
    have hfit : a + ck.length ≤ (writeS S data L k).B.length := by rw [w1, hcl]; exact h3
    refine ⟨fun q hq => ?_, fun j hj => ?_⟩
    · rw [et, List.mem_append, had] at hq
      have hq1 : q ∉ adL (L.take k) := fun e => hq (.inl e)
      rw [getD_bput hfit ?_]
      · exact i1 q hq1
      · rw [hcl]
        by_cases e : q < a
        · exact .inl e
        · refine .inr (Nat.le_of_not_lt (fun e2 => hq (.inr (List.mem_map.2 ⟨q - a, List.mem_range.2 (by omega), by omega⟩))))
    · by_cases e : j < (adL (L.take k)).length
      · have eq1 : (adL (L.take (k + 1)))[j] = (adL (L.take k))[j] := by simp only [et]; rw [List.getElem_append_left e]
        rw [eq1, getD_bput hfit ?_]
        · exact i2 j e
        · rw [hcl]
          have hm : (adL (L.take k))[j] ∈ adL (L.take k) := List.getElem_mem e
          generalize (adL (L.take k))[j] = q at hm
          by_cases e1 : q < a
          · exact .inl e1
          · refine .inr (Nat.le_of_not_lt (fun e2 => ?_))
            rw [et, List.nodup_append] at hsub
            exact hsub.2.2 q hm q (by rw [had]; exact List.mem_map.2 ⟨q - a, List.mem_range.2 (by omega), by omega⟩) rfl
      · have hj2 : j < (adL (L.take k)).length + n := by
          have := hj
          rw [et, List.length_append, ad_len, h5] at this
          exact this
        obtain ⟨i, rfl⟩ : ∃ i, j = (adL (L.take k)).length + i := ⟨j - (adL (L.take k)).length, by omega⟩
        have eq1 : (adL (L.take (k + 1)))[(adL (L.take k)).length + i] = a + i := by
          simp only [et]
          rw [List.getElem_append_right (by omega)]
          simp only [had, List.getElem_map, List.getElem_range]
          omega
        rw [eq1, bput_in hfit (by rw [hcl]; omega), ← hck, List.getD_eq_getElem?_getD, List.getD_eq_getElem?_getD, List.getElem?_take, if_pos (by omega), List.getElem?_drop]
        congr 2; omega
theorem write_law {E G : Tab.Prs} {S : Ar.AS} {data : Bs} {a n : Nat} {L : List Sp} (hi : Tab.Inv E G) (q : Pcs E S.B.length a n L) (hd : data.length = n) (hN : S.B.length ≤ 2097152) (hn : n ≤ 100000) (hc : ∀ i, i < n → ∃ x : Nat, eget E (((a + i) / 512 : Nat) : Int) = some (x : Int)) :
    (writeS S data L L.length).B.length = S.B.length ∧ (writeS S data L L.length).T.length ≤ S.T.length + L.length ∧ (∀ i, i < n → (writeS S data L L.length).B.getD (lad E (a + i)) 0 = data.getD i 0) ∧ ∀ x, (∀ i, i < n → x ≠ lad E (a + i)) → (writeS S data L L.length).B.getD x 0 = S.B.getD x 0 := by
  have hs : dn L L.length = (data.length : Int) := by rw [q.sum, hd]
  have hl := q.len
  have hm := Nat.mod_lt a (show 512 > 0 by omega)
  have hL : L.length ≤ 1000 := by omega
  obtain ⟨w1, w2⟩ := write_len (data := data) q.fit hs hN hL L.length (Nat.le_refl _)
  have hnd : (adL L).Nodup := by
    rw [q.ad]
    refine nodup_map _ _ List.nodup_range (fun i hi' j hj' e => ?_)
    obtain ⟨x, x1⟩ := hc i (List.mem_range.1 hi')
    obtain ⟨y, y1⟩ := hc j (List.mem_range.1 hj')
    have := lad_inj hi (by rw [Tab.fnd_some x1]; omega) (by rw [Tab.fnd_some y1]; omega) e
    omega
  obtain ⟨i1, i2⟩ := write_ad q.fit hs hN hL hnd L.length (Nat.le_refl _)
  rw [List.take_length] at i1
  refine ⟨w1, w2, fun i hi' => ?_, fun x hx => i1 x (fun e => ?_)⟩
  · have hlen : i < (adL (L.take L.length)).length := by rw [List.take_length, q.ad, List.length_map, List.length_range]; exact hi'
    have := i2 i hlen
    have e : (adL (L.take L.length))[i] = lad E (a + i) := by simp only [List.take_length, q.ad, List.getElem_map, List.getElem_range]
    rw [e] at this
    exact this
  · rw [q.ad] at e
    obtain ⟨i, hi', rfl⟩ := List.mem_map.1 e
    exact hx i (List.mem_range.1 hi') rfl
/-! A block. -/
theorem blk_cov {t : T3} (h : HI t) {c s k : Nat} (hc : c < 24) (hs : s < Pc.slots c) (hk : k < Pc.nb c) (hh : hadB t.H c s k = true) : ∀ i, i < Pc.un c → ∃ x : Nat, eget t.H.E (((Pc.addr c s k + i) / 512 : Nat) : Int) = some (x : Int) ∧ x * 512 + 512 ≤ t.S.B.length := fun i hi => by
  obtain ⟨x, x1, x2, x3⟩ := HIx.cov h hc hs hk (had_iff.1 hh).1 hi
  exact ⟨x, x1, He.page_fit x2 h.ti.bl⟩
theorem blk_pcs {t : T3} (h : HI t) {c s k : Nat} (hc : c < 24) (hs : s < Pc.slots c) (hk : k < Pc.nb c) (hh : hadB t.H c s k = true) : ∃ L, Tab.pieces t.H.E ((Pc.addr c s k : Nat) : Int) ((Pc.un c : Nat) : Int) = some L ∧ Pcs t.H.E t.S.B.length (Pc.addr c s k) (Pc.un c) L ∧ L.length ≤ 20 := by
  have h1 := addr_lt hc hs hk
  obtain ⟨L, hL, q⟩ := pieces_cov (E := t.H.E) (N := t.S.B.length) (a := Pc.addr c s k) (n := Pc.un c) (by omega) (by omega) (blk_cov h hc hs hk hh)
  have hu := Pc.un_range hc
  have hl := q.len
  have hm := Nat.mod_lt (Pc.addr c s k) (show 512 > 0 by omega)
  exact ⟨L, hL, q, by omega⟩
theorem bl_bound {t : T3} (h : TI t) : t.S.B.length ≤ 2097152 := by
  have := h.bl
  have := h.mi.p
  omega
def WbR (w : World) (X : He.HX) (g : Int → Pg.Pla) (p : Ar.Pl) (v : Value) (cp : Co.Pla) (t : T3) (c s k : Nat) (d : Nat → UInt8) (e : Ending) (w' : World) : Prop := e = .returned (.int .i64 0) ∧ ∃ S' v', HG w X g p v cp t.H.D t.M.C X g v' t.H S' t.M w' ∧ Wrote t ⟨t.H, S', t.M⟩ c s k d ∧ S'.T.length ≤ t.S.T.length + 20
theorem wblk_any (w : World) (X : He.HX) (g : Int → Pg.Pla) (p : Ar.Pl) (v : Value) (cp : Co.Pla) (t : T3) (c s k : Nat) (data : Bs) (j : HJ w X g p v cp t.H t.S t.M) (h : HI t) (hc : c < 24) (hs : s < Pc.slots c) (hk : k < Pc.nb c) (hh : hadB t.H c s k = true) (hd : data.length = Pc.un c) (hT : t.S.T.length + 1000 ≤ 1000000000) :
    Calls Tryz.prog 34 #[.pointer (some ⟨p.a, 0, none⟩), .pointer (some ⟨X.tb, 0, none⟩), .int .i64 ((Pc.addr c s k : Nat) : Int), .string (bs data)] w (WbR w X g p v cp t c s k (fun i => data.getD i 0)) := by
  obtain ⟨L, hL, q, hl⟩ := blk_pcs h hc hs hk hh
  have hu := Pc.un_range hc
  have hN := bl_bound h.ti
  obtain ⟨l1, l2, l3, l4⟩ := write_law (S := t.S) (data := data) h.ti.inv q hd hN (by omega) (fun i hi => by obtain ⟨x, x1, -⟩ := blk_cov h hc hs hk hh i hi; exact ⟨x, x1⟩)
  refine (write_any w p v t.S X.tb X.tm X.tn t.H.E t.H.G _ data L j.ar j.h.tab (fun k => j.h.inv.le k) (by rw [hd]; exact hL) q.fit (by rw [q.sum, hd]) (by omega) hT (by omega)).mono ?_
  rintro e w' ⟨rfl, r⟩
  obtain ⟨v', hg⟩ := j.arena r l1
  exact ⟨rfl, _, v', hg, write_ok h hc hs hk hh l1 l3 l4, by omega⟩
def RbR (w : World) (X : He.HX) (g : Int → Pg.Pla) (p : Ar.Pl) (v : Value) (cp : Co.Pla) (t : T3) (c s k : Nat) (e : Ending) (w' : World) : Prop := e = .returned (.tuple #[.string (bs ((List.range (Pc.un c)).map (fun i => byt t (Pc.addr c s k + i)))), .int .i64 0]) ∧ ∃ T' v', HG w X g p v cp t.H.D t.M.C X g v' t.H ⟨t.S.B, T'⟩ t.M w' ∧ T'.length ≤ t.S.T.length + 20
theorem rblk_any (w : World) (X : He.HX) (g : Int → Pg.Pla) (p : Ar.Pl) (v : Value) (cp : Co.Pla) (t : T3) (c s k : Nat) (j : HJ w X g p v cp t.H t.S t.M) (h : HI t) (hc : c < 24) (hs : s < Pc.slots c) (hk : k < Pc.nb c) (hh : hadB t.H c s k = true) (hT : t.S.T.length + 1000 ≤ 1000000000) :
    Calls Tryz.prog 45 #[.pointer (some ⟨p.a, 0, none⟩), .pointer (some ⟨X.tb, 0, none⟩), .int .i64 ((Pc.addr c s k : Nat) : Int), .int .i64 ((Pc.un c : Nat) : Int)] w (RbR w X g p v cp t c s k) := by
  obtain ⟨L, hL, q, hl⟩ := blk_pcs h hc hs hk hh
  refine (read_any w p v t.S X.tb X.tm X.tn t.H.E t.H.G _ _ L j.ar j.h.tab (fun k => j.h.inv.le k) hL q.fit (by omega) hT).mono ?_
  rintro e w' ⟨rfl, r⟩
  obtain ⟨f1, f2⟩ := fold_read t.S L
  obtain ⟨v', hg⟩ := j.arena r (by rw [f1])
  rw [read_law q]
  refine ⟨rfl, (L.foldl readS t.S).T, v', ?_, by omega⟩
  rw [show (⟨t.S.B, (L.foldl readS t.S).T⟩ : Ar.AS) = L.foldl readS t.S from by rw [← f1]]
  exact hg
end Vw
end Go.Proofs.YtnheibcjcgacpaaGreatDoor

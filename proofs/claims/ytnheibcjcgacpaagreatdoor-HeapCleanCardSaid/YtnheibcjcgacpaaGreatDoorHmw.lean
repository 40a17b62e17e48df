/- The heap's walks: outside, Move. -/
import Derived.Test.YtnheibcjcgacpaaGreatDoorHmv
set_option linter.unusedVariables false
set_option linter.unusedSimpArgs false
namespace Go.Proofs.YtnheibcjcgacpaaGreatDoor
open Go.RowKit Go.ChangeMaps
namespace Hin
open Pgi He Pg
def outF (t : T3) (W' : List Int) (v : Int) : Bool := !(decide (Co.colr t.M (Tab.fnd t.H.E v) ∈ W'))
theorem filter_snoc (f : Int → Bool) (L : List Int) (k : Int) : (L ++ [k]).filter f = L.filter f ++ if f k then [k] else [] := by
  rw [List.filter_append, List.filter_cons, List.filter_nil]
def OutsR (w : World) (L : List Int) (e : Ending) (w' : World) : Prop := ∃ v, e = .returned v ∧ OutR 3 1 w.heap.size w' v L.length (ints L) ∧ Keeps (fun _ => False) w w'
set_option maxRecDepth 100000 in
set_option maxHeartbeats 1000000 in
theorem outside_any (w : World) (X : HX) (g : Int → Pla) (p : Ar.Pl) (v : Value) (cp : Co.Pla) (t : T3) (A0 : Option Addr) (n0 cap0 : Nat) (W' : List Int) (j : HJ w X g p v cp t.H t.S t.M) (hl0 : W'.length = n0) (hr0 : Rd w A0 (ints W')) (hn0 : n0 ≤ 1000000) :
    Calls Tryz.prog 130 #[.pointer (some ⟨X.hb, 0, none⟩), .slice A0 n0 cap0] w (OutsR w (outL t W')) := by
  obtain ⟨-, -, -, c3, -⟩ := j.h.four
  have hl := inv_len j.h.inv
  have q1 := Tab.all_any w X.tb X.tm X.tn t.H.E t.H.G j.h.tab j.h.inv (by omega)
  obtain ⟨n, hn⟩ : ∃ n, t.H.E.length = n := ⟨_, rfl⟩
  have hsk := Tab.sortedKeys_len t.H.E
  rw [hn] at q1 hl hsk
  obtain ⟨L, hL⟩ : ∃ L, Tab.sortedKeys t.H.E = L := ⟨_, rfl⟩
  rw [hL] at q1 hsk
  have HD := Hid.of (show outL t W' = L.filter (outF t W') by rw [← hL]; rfl)
  generalize outL t W' = Rz at HD ⊢
  have HJ0 := Hid.of (And.intro j (And.intro hl0 (And.intro hl (And.intro hsk (And.intro hr0 hn0)))))
  clear j hn hL hl hsk hl0 hr0 hn0
  go_enter Tryz.func130, Tryz.ntmps130
  go_wp2_with fail
  refine q1.mono ?_
  rintro e w1 ⟨vs, rfl, o1, f1, k1⟩
  obtain ⟨A, cap, rfl, -, hA, hr⟩ := o1.rd
  have H1 := Hid.of (And.intro k1 hr)
  clear q1 o1 f1 hA k1 hr c3
  go_wp2_with fail
  go_loopw [4, 13] (fun v i wr => ∃ (k : Nat) (K : List Int), k ≤ n ∧ i = .int .i64 k ∧ K.length ≤ k ∧ OutR 3 1 w1.heap.size wr v K.length (ints K) ∧ Keeps (fun _ => False) w1 wr ∧ Hid (K = (L.take k).filter (outF t W'))) (fun _ i _ => n - (intOf i).toNat)
  case atStart => exact ⟨0, [], by omega, rfl, Nat.le_refl _, OutR.nil _ _ _ _, Keeps.refl _ _, Hid.of rfl⟩
  case round =>
    obtain ⟨k, K, hk, rfl, hKk, hO, hK1, HI⟩ := hrel
    have hK := H1.out.1.trans hK1
    obtain ⟨A', cap', rfl, -, -, -⟩ := hO.1.shape
    by_cases hlt : k < n
    · have hkd : decide ((k : Int) < (n : Int)) = true := by simp; omega
      have hkL : k < L.length := by rw [HJ0.out.2.2.2.1]; exact hlt
      obtain ⟨b0, o0, s0, rfl, hc0⟩ := rd_int (H1.out.2.old hK1) k hkL
      have hsn := take_snocI L k hkL
      have J := HJ0.out.1.old hK
      obtain ⟨-, c1, -, c3, -⟩ := J.h.four
      have HS := Hid.of (show (L.take (k + 1)).filter (outF t W') = K ++ if outF t W' (L.getD k 0) then [L.getD k 0] else [] by rw [hsn, filter_snoc, HI.out])
      obtain ⟨y, hy⟩ : ∃ y, L.getD k 0 = y := ⟨_, rfl⟩
      rw [hy] at hc0 HS
      have hk6 : k < 6400 := by have := HJ0.out.2.2.1; omega
      have t1 := fun m => (Tab.find_any (wr.drewN m) X.tb X.tm X.tn t.H.E t.H.G y (J.h.tab.old ((Keeps.refl _ _).drewN m))).mono (fun e w' (h : _ ∧ wr.drewN m = w') => And.intro h.1 h.2.symm)
      have t2 := fun m => (Co.Colour_any (wr.drewN m) cp t.M (Tab.fnd t.H.E y) (J.co.old ((Keeps.refl _ _).drewN m))).mono (fun e w' (h : _ ∧ wr.drewN m = w') => And.intro h.1 h.2.symm)
      have t3 := fun m => (contains_ints (wr.drewN m) A0 n0 cap0 W' (Co.colr t.M (Tab.fnd t.H.E y)) HJ0.out.2.1 ((HJ0.out.2.2.2.2.1.old hK).old ((Keeps.refl _ _).drewN m)) (by have := HJ0.out.2.2.2.2.2; omega)).mono (fun e w' (h : _ ∧ wr.drewN m = w') => And.intro h.1 h.2.symm)
      have hof : outF t W' y = !(decide (Co.colr t.M (Tab.fnd t.H.E y) ∈ W')) := rfl
      have HO := Hid.of hO
      have HK := Hid.of (And.intro hK hK1)
      have o1 := hO.1
      have HT := Hid.of (And.intro t1 t2)
      clear hO hK hK1 J hy t1 t2 hsn
      cases hm : decide (Co.colr t.M (Tab.fnd t.H.E y) ∈ W') with
      | true =>
        rw [hm] at hof t3
        have HT3 := Hid.of t3
        have HL2 : Hid (K = (L.take (k + 1)).filter (outF t W')) := Hid.of (by rw [HS.out, hof]; simp)
        clear o1 t3 hof hm
        go_wp2_with fail
        go_quiet (first | (go_at_call 28; exact Calls.quiet_of_same (HT.out.1 _)) | (go_at_call 226; exact Calls.quiet_of_same (HT.out.2 _)) | (go_at_call 225; exact Calls.quiet_of_same (HT3.out _)))
        go_wp2
        go_roundw
        case rel => exact ⟨k + 1, K, by omega, by go_num, by omega, HO.out, HK.out.2.drewN _, HL2⟩
        case measure => simp [intOf]; omega
      | false =>
        rw [hm] at hof t3
        have HT3 := Hid.of t3
        have HL2 : Hid (K ++ [y] = (L.take (k + 1)).filter (outF t W')) := Hid.of (by rw [HS.out, hof]; simp)
        clear o1 t3 hof hm
        go_wp2_with fail
        go_quiet (first | (go_at_call 28; exact Calls.quiet_of_same (HT.out.1 _)) | (go_at_call 226; exact Calls.quiet_of_same (HT.out.2 _)) | (go_at_call 225; exact Calls.quiet_of_same (HT3.out _)))
        obtain ⟨w4, hw4⟩ : ∃ w4, wr.drewN nq = w4 := ⟨_, rfl⟩
        have H4 := Hid.of (show OutR 3 1 w1.heap.size w4 (.slice A' K.length cap') K.length (ints K) ∧ Keeps (fun _ => False) w1 w4 from by rw [← hw4]; exact ⟨HO.out, HK.out.2.drewN _⟩)
        have o4 := H4.out.1.1
        rw [hw4]
        clear hw4
        go_wp2_with (at_builtin; refine wpList_app1 slInts w4 rfl _ _ rfl (.slice A' K.length cap') K.length (ints K) rfl o4 [.int .i64 y] rfl rfl (by simp [Value.oneCell']) (by unfold maxLen; omega) (by omega) ?_; intro v5 w5 o5 k5 at5; have HF : Hid (OutR 3 1 w1.heap.size w5 v5 (K.length + 1) (ints K ++ [.int .i64 y]) ∧ Keeps (fun _ => False) w1 w5) := Hid.of ⟨H4.out.1.app o5 at5 (H4.out.2.size), H4.out.1.keeps H4.out.2 k5⟩; clear o5 k5 at5)
        go_roundw
        case rel => exact ⟨k + 1, K ++ [y], by omega, by go_num, by simp; omega, by rw [List.length_append, ints_append]; exact HF.out.1, HF.out.2, HL2⟩
        case measure => simp [intOf]; omega
    · obtain rfl : k = n := by omega
      have hl1 : decide ((k : Int) < (k : Int)) = false := by simp
      have HF : Hid (OutR 3 1 w.heap.size wr (.slice A' K.length cap') Rz.length (ints Rz) ∧ Keeps (fun _ => False) w wr) := Hid.of ⟨by
        have e : K = Rz := by rw [HD.out, HI.out, List.take_of_length_le (by rw [HJ0.out.2.2.2.1]; exact Nat.le_refl _)]
        rw [← e]; exact hO.low (H1.out.1.size), hK⟩
      clear hO hK hK1
      go_wp2
      go_ret
      exact ⟨_, rfl, HF.out⟩
theorem fp_win {X : HX} {u' : Value} {g : Int → Pla} {i : Pid} (h : i ≠ .win) {x : Nat} : fp { X with u := u' } g i x ↔ fp X g i x := by
  cases i with
  | win => exact absurd rfl h
  | _ => exact Iff.rfl
/-- Another window. -/
theorem HJ.setWin {w w1 w2 : World} {X : HX} {g : Int → Pla} {p : Ar.Pl} {v : Value} {cp : Co.Pla} {H : HS} {S : Ar.AS} {M : Co.CM} (j : HJ w X g p v cp H S M) {u' : Value} {W' : List Int} (k1 : Keeps (fun _ => False) w w1) (o : Own w1 3 1 u' W'.length (ints W')) (f : ∀ x, u'.ownBlock = some x → w.heap.size ≤ x) (h2 : w1.setCell ⟨X.hb, 2, none⟩ u' = w2) :
    HG w X g p v cp H.D M.C { X with u := u' } g v { H with W := W' } S M w2 := by
  have k2 : Keeps (fun x => x = X.hb) w1 w2 := by rw [← h2]; exact (Keeps.refl _ _).setCell _ _ (.inl rfl)
  have k : Keeps (fun x => x = X.hb) w w2 := (k1.mono (fun _ _ x => x.elim)).trans k2
  have hb : Fp X g H.D X.hb := ⟨.box, trivial, rfl⟩
  have hblt := j.h.lt hb
  have e := j.h.ex (i := .box) trivial k
  have fr : ∀ x, Fp { X with u := u' } g H.D x → Fp X g H.D x ∨ w.heap.size ≤ x := by
    rintro x ⟨i, hi, hx⟩
    by_cases q : i = .win
    · subst q; exact .inr (f x hx)
    · exact .inl ⟨i, hi, (fp_win q).1 hx⟩
  have a : HAt w2 { X with u := u' } g p.a cp.m { H with W := W' } := by
    refine { cells := ?_, win := o.keep k2 (fun y hy q => by have := f y hy; omega), tab := e.tab (by simp), inv := j.h.inv, slot := fun i hi => e.slot i hi (by simp), slen := j.h.slen, line := fun i hi => e.line i hi (by simp), small := e.small (by simp), page := fun v P hP => e.page v P hP (by simp), apart := fun i i' hi hi' hne x hx hy => ?_ }
    · have y2 := set_of (k1.at j.h.cells (fun x => x)) 2 u'
      rw [h2] at y2
      exact y2
    · by_cases q : i = .win
      · subst q
        have h1 := f x hx
        have h3 := j.h.lt ⟨i', hi', (fp_win (fun z => hne z.symm)).1 hy⟩
        omega
      · by_cases q' : i' = .win
        · subst q'
          have h1 := f x hy
          have h3 := j.h.lt ⟨i, hi, (fp_win q).1 hx⟩
          omega
        · exact j.h.apart i i' hi hi' hne x ((fp_win q).1 hx) ((fp_win q').1 hy)
  refine ⟨{ h := a, ar := j.ar.keep k (fun x hx q => j.ha x (q ▸ hb) hx), co := j.co.keep k (fun x hx q => j.hc x (q ▸ hb) hx), T := j.T.keep k (fun q => j.off _ (.inl (q ▸ hb)) rfl), ha := fun x hx hy => ?_, hc := fun x hx hy => ?_, ac := j.ac, off := fun x hx => ?_, bl := j.bl, pg := j.pg }, rfl, rfl, k.mono (fun x _ hx => .inl (hx ▸ hb)), fr, fun x hx => .inl hx⟩
  · rcases fr x hx with q | q
    · exact j.ha x q hy
    · have := j.ar.lt hy; omega
  · rcases fr x hx with q | q
    · exact j.hc x q hy
    · have := j.co.lt hy; omega
  · rcases hx with q | q | q
    · rcases fr x q with z | z
      · exact j.off x (.inl z)
      · have := j.T.lt; omega
    · exact j.off x (.inr (.inl q))
    · exact j.off x (.inr (.inr q))
def MovR (w : World) (X : HX) (g : Int → Pla) (p : Ar.Pl) (v : Value) (cp : Co.Pla) (t t' : T3) (E : Int) (e : Ending) (w' : World) : Prop := e = .returned (.int .i64 E) ∧ ∃ X' v', HG w X g p v cp t.H.D t.M.C X' g v' t'.H t'.S t'.M w'
set_option maxRecDepth 100000 in
set_option maxHeartbeats 2000000 in
theorem move_any (w : World) (X : HX) (g : Int → Pla) (p : Ar.Pl) (v : Value) (cp : Co.Pla) (t : T3) (A0 : Option Addr) (n0 cap0 : Nat) (W' : List Int) (j : HJ w X g p v cp t.H t.S t.M) (h : HI t) (hA0 : A0 = none → n0 = 0 ∧ cap0 = 0) (hl0 : W'.length = n0) (hr0 : Rd w A0 (ints W')) (hn0 : n0 ≤ 1000000) (hT : t.S.T.length + 20000 ≤ 1000000000) :
    Calls Tryz.prog 49 #[.pointer (some ⟨X.hb, 0, none⟩), .slice A0 n0 cap0] w (MovR w X g p v cp t (moveT t W').1 (moveT t W').2) := by
  obtain ⟨-, c1, c2, c3, -⟩ := j.h.four
  have q1 := outside_any w X g p v cp t A0 n0 cap0 W' j hl0 hr0 hn0
  unfold OutsR at q1
  have q2 := fun wx (k : Keeps (fun _ => False) w wx) => Co.free_any wx cp t.M A0 cap0 W' n0 (j.co.old k) hl0 (hr0.old k) hn0
  have hmv : moveT t W' = if Co.nf t.M W' < (outL t W').length then (t, 13) else (movL (setW t W') (outL t W'), 0) := rfl
  have hol : (outL t W').length ≤ 6400 := by
    have h1 := inv_len j.h.inv
    have h2 := Tab.sortedKeys_len t.H.E
    have h3 := List.length_filter_le (fun v => !(decide (Co.colr t.M (Tab.fnd t.H.E v) ∈ W'))) (Tab.sortedKeys t.H.E)
    unfold outL; omega
  have hat := fun (hle : (outL t W').length ≤ Co.nf t.M W') (k : Nat) (hk : k < (outL t W').length) => movL_at (t := setW t W') (L := outL t W') (h.setW W') (fun v hv => (mem_outL h).1 hv) ((nodup_sortedKeys h.ti.inv).filter _) hle hk
  generalize moveT t W' = Rz at hmv ⊢
  generalize outL t W' = L at *
  obtain ⟨n, hn⟩ : ∃ n, L.length = n := ⟨_, rfl⟩
  rw [hn] at q1 hmv hol hat
  obtain ⟨N, hN⟩ : ∃ N, Co.nf t.M W' = N := ⟨_, rfl⟩
  rw [hN] at q2 hmv hat
  have HJ0 := Hid.of (And.intro j (And.intro h (And.intro hA0 (And.intro hl0 (And.intro hr0 (And.intro hn0 (And.intro hT (And.intro hol hn))))))))
  have HAt0 := Hid.of hat
  clear j h hA0 hl0 hr0 hn0 hT hol hn hat hN
  by_cases hlt : N < n
  · rw [if_pos hlt] at hmv
    subst hmv
    have t1 : decide ((N : Int) < (n : Int)) = true := by simp; omega
    have t1' : decide (N < n) = true := by simpa using hlt
    clear hlt
    go_enter Tryz.func49, Tryz.ntmps49
    go_wp2_with fail
    refine q1.mono ?_
    rintro e w1 ⟨vs, rfl, o1, k1⟩
    obtain ⟨A, cap, rfl, -, -, -⟩ := o1.rd
    have d1 := keep_cell1 k1 c1
    have q3 := q2 w1 k1
    have H1 := Hid.of (HJ0.out.1.old k1)
    have HK := Hid.of k1
    clear q1 q2 o1 c1 c2 c3 k1
    go_wp2_with fail
    refine q3.mono ?_
    rintro e w2 ⟨rfl, k2⟩
    have HK2 := Hid.of (HK.out.trans k2)
    clear q3 k2
    go_wp2
    go_ret
    exact ⟨rfl, X, v, HG.refl HJ0.out.1 HK2.out⟩
  · rw [if_neg hlt] at hmv
    subst hmv
    have t1 : decide ((N : Int) < (n : Int)) = false := by simp; omega
    have t1' : decide (N < n) = false := by simpa using hlt
    have HLe := Hid.of (show n ≤ N by omega)
    clear hlt
    go_enter Tryz.func49, Tryz.ntmps49
    go_wp2_with fail
    refine q1.mono ?_
    rintro e w1 ⟨vs, rfl, o1, k1⟩
    obtain ⟨A, cap, rfl, -, hA, hr⟩ := o1.rd
    have d1 := keep_cell1 k1 c1
    have q3 := q2 w1 k1
    have HK := Hid.of (And.intro k1 (And.intro hr hA))
    clear q1 q2 o1 c1 c2 c3 k1 hr hA
    go_wp2_with fail
    refine q3.mono ?_
    rintro e w2 ⟨rfl, k2⟩
    have HK2 := Hid.of (HK.out.1.trans k2)
    have HK3 := Hid.of k2
    clear q3 k2 d1
    have q4 := clone_ints w2 A0 n0 cap0 (ints W') HJ0.out.2.2.1 (by rw [ints_length]; exact HJ0.out.2.2.2.1) (HJ0.out.2.2.2.2.1.old HK2.out) (fun u hu => by unfold ints at hu; obtain ⟨c, _, rfl⟩ := List.mem_map.1 hu; rfl) (by have := HJ0.out.2.2.2.2.2.1; omega)
    unfold CloneR at q4
    go_wp2_with fail
    refine q4.mono ?_
    rintro e w3 ⟨u', rfl, o3, k3⟩
    obtain ⟨A3, cap3, rfl, -, -, -⟩ := o3.rd
    have y3 := free_of ((HK2.out.trans k3).at HJ0.out.1.h.cells (fun x => x)) 2
    have x3 := keep_cell1 (HK2.out.trans k3) HJ0.out.1.h.four.2.2.1
    obtain ⟨w4, hw4⟩ : ∃ w4, w3.setCell ⟨X.hb, 2, none⟩ (.slice A3 n0 cap3) = w4 := ⟨_, rfl⟩
    have G4 := Hid.of (show HG w2 X g p v cp t.H.D t.M.C { X with u := .slice A3 n0 cap3 } g v (setW t W').H (setW t W').S (setW t W').M w4 from
      HJ.setWin (HJ0.out.1.old HK2.out) k3 (by rw [HJ0.out.2.2.2.1]; exact o3.1) o3.2 hw4)
    have HRow := Hid.of (show Rd w4 A (ints L) from ((HK.out.2.1.old HK3.out).old k3).keep (by rw [← hw4]; exact (Keeps.refl (fun x => x = X.hb) w3).setCell _ _ (.inl rfl)) (fun ad ha _ q => by
      have h1 := (HK.out.2.2 ad ha).1
      have h2 := HJ0.out.1.h.lt ⟨.box, trivial, rfl⟩
      omega))
    have HS4 := Hid.of (show ∀ ad, A = some ad → ∀ x, AF { X with u := .slice A3 n0 cap3 } g t.H.D p v cp t.M.C x → ad.block ≠ x from fun ad ha x hx e => by
      have h1 := HK.out.2.2 ad ha
      have h2 := HK3.out.size
      rcases hx with q | q | q
      · rcases G4.out.fh x q with z | z
        · have := HJ0.out.1.h.lt z; omega
        · omega
      · have := HJ0.out.1.ar.lt q; omega
      · have := HJ0.out.1.co.lt q; omega)
    clear q4 o3 k3
    go_wp2_with fail
    clear hw4 y3 x3 HK3
    go_loopw [34] (fun i wr => ∃ (k : Nat) (v' : Value), k ≤ n ∧ i = .int .i64 k ∧ Hid (HG w4 { X with u := .slice A3 n0 cap3 } g p v cp t.H.D t.M.C { X with u := .slice A3 n0 cap3 } g v' (movL (setW t W') (L.take k)).H (movL (setW t W') (L.take k)).S (movL (setW t W') (L.take k)).M wr)) (fun i _ => n - (intOf i).toNat)
    case atStart => exact ⟨0, v, by omega, rfl, Hid.of (by have := HG.refl G4.out.j (Keeps.refl _ _); exact this)⟩
    case round =>
      obtain ⟨k, v', hk, rfl, HI⟩ := hrel
      by_cases hlt : k < n
      · have hkd : decide ((k : Int) < (n : Int)) = true := by simp; omega
        have hkL : k < L.length := by rw [HJ0.out.2.2.2.2.2.2.2.2]; exact hlt
        obtain ⟨x, o, ho, hm, hhi, hsn, htT, htW⟩ := HAt0.out HLe.out k hlt
        have htW : (movL (setW t W') (L.take k)).H.W = W' := htW
        have htT : (movL (setW t W') (L.take k)).S.T.length ≤ t.S.T.length + 3 * k := htT
        have hT0 := HJ0.out.2.2.2.2.2.2.1
        have hk6 : k < 6400 := by have := HJ0.out.2.2.2.2.2.2.2.1; omega
        have hrw : Rd wr A (ints L) := HRow.out.keep HI.out.keeps (fun ad ha _ hx => HS4.out ad ha _ hx rfl)
        obtain ⟨b0, o0, s0, rfl, hc0⟩ := rd_int hrw k hkL
        obtain ⟨y, hy⟩ : ∃ y, L.getD k 0 = y := ⟨_, rfl⟩
        rw [hy] at hc0 ho hm hsn
        obtain ⟨tk, htk⟩ : ∃ tk, movL (setW t W') (L.take k) = tk := ⟨_, rfl⟩
        rw [htk] at ho hm hhi hsn htT htW HI
        have HSn := Hid.of hsn
        have HHi := Hid.of hhi
        have HM := Hid.of hm
        obtain ⟨d0, d1, d2, d3, d6⟩ := HI.out.j.h.four
        have hxP := hm.hx
        have hoP := hm.ho
        have hP := HI.out.j.co.p.2
        obtain ⟨wx, wx2⟩ := mul_arith (x := x) (by omega)
        obtain ⟨wo, wo2⟩ := mul_arith (x := o) (by omega)
        have qt := Co.take_any wr.drew cp tk.M A3 cap3 tk.H.W n0 (HI.out.j.co.old ((Keeps.refl _ _).drew)) (HI.out.j.T.old ((Keeps.refl _ _).drew)) (by rw [htW]; exact HJ0.out.2.2.2.1) (by
          obtain ⟨A', cap', hu', -, -, hr'⟩ := HI.out.j.h.win.rd
          have hu' : Value.slice A3 n0 cap3 = .slice A' tk.H.W.length cap' := hu'
          injection hu' with i1 i2 i3
          rw [i1]; exact hr'.old ((Keeps.refl _ _).drew)) HJ0.out.2.2.2.2.2.1
        unfold Co.TakeR at qt
        rw [hm.te] at qt
        have HNB := Hid.of (show ¬ Co.Fp cp tk.M.C X.hb from fun e => HI.out.j.hc _ ⟨.box, trivial, rfl⟩ e)
        have HTC := Hid.of (take_CP tk.M tk.H.W)
        have HI2 := Hid.of HI.out
        have HA := Hid.of (And.intro htT (And.intro hT0 (And.intro htk hk6)))
        have HP := Hid.of (And.intro hxP (And.intro hoP hP))
        clear hrw hkL hsn htT hT0 htW hy htk hm hhi ho HI hxP hoP hP HRow HAt0 hk6
        go_wp2_with fail
        go_region_held3 (fun wx => wx.cell? ⟨X.hb, 1, none⟩ = some (.pointer (some ⟨cp.m, 0, none⟩)) ∧ wx.cell? ⟨X.hb, 2, none⟩ = some (.slice A3 n0 cap3))
          (first | exact ⟨d1, d2⟩ | exact ⟨e1, e2⟩)
          (first | (go_at_call 131; refine qt.mono ?_; clear qt; rintro e w5 ⟨rfl, a5, k5'⟩; have k5 : Keeps (Co.Fp cp tk.M.C) wr w5 := (by rw [← HTC.out.1]; exact k5'.of_drew); have e1 := keep_cell k5 HNB.out d1; have e2 := keep_cell k5 HNB.out d2))
        have HR5 := Hid.of (show Co.R wr cp (Co.take tk.M tk.H.W) w5 from ⟨a5, by rw [HTC.out.1]; exact k5⟩)
        have G5 := Hid.of (show HG wr { X with u := .slice A3 n0 cap3 } g p v' cp tk.H.D tk.M.C { X with u := .slice A3 n0 cap3 } g v' tk.H tk.S (Co.take tk.M tk.H.W) w5 from HI2.out.j.map HR5.out HTC.out.1 HTC.out.2)
        have q6 := Tab.swap_any w5 X.tb X.tm X.tn tk.H.E tk.H.G y x G5.out.j.h.tab
        rw [HM.out.se] at q6
        have e3 := G5.out.j.h.four.2.2.2.1
        clear e1 e2 d0 d1 d2 d3 d6 a5 k5 k5' HR5 HNB
        go_wp2_with fail
        refine q6.mono ?_
        rintro e w6 ⟨rfl, t6, k6⟩
        have G6 := Hid.of (show HG w5 { X with u := .slice A3 n0 cap3 } g p v' cp tk.H.D (Co.take tk.M tk.H.W).C { X with u := .slice A3 n0 cap3 } g v' { tk.H with E := (Tab.swS tk.H.E tk.H.G y x).1, G := (Tab.swS tk.H.E tk.H.G y x).2 } tk.S (Co.take tk.M tk.H.W) w6 from
          G5.out.j.own (G5.out.j.h.setTab t6 (G5.out.j.h.inv.sw y x) k6) (k6.mono (fun z _ hz => ⟨.tab, trivial, .inr hz⟩)) (fun i hi => hi) (fun i => by
            have h1 := HM.out.ti.pg i
            have h2 := HM.out.e
            rw [h2] at h1
            have h3 : Tab.swS tk.H.E tk.H.G y (x : Int) = (eset tk.H.E y (x : Int), eset (edel tk.H.G (o : Int)) (x : Int) y) := by
              unfold Tab.swS
              rw [HM.out.se, if_pos rfl, HM.out.fo]
            show Tab.fnd (Tab.swS tk.H.E tk.H.G y (x : Int)).1 i < _
            rw [h3, HTC.out.2]; exact h1))
        obtain ⟨f0, f1, -, -, f6⟩ := G6.out.j.h.four
        have fx := page_fit HP.out.1 HI2.out.j.bl
        have fo := page_fit HP.out.2.1 HI2.out.j.bl
        have hTk : tk.S.T.length + 3 ≤ 1000000000 := by have := HA.out.1; have := HA.out.2.1; have := HA.out.2.2.2; omega
        have q7 := Ar.copy_any w6 p v' tk.S (x * 512) (o * 512) 512 G6.out.j.ar fx fo (by omega)
        unfold Ar.DoneR at q7
        have HFit := Hid.of (And.intro fx (And.intro fo hTk))
        obtain ⟨Y, hY⟩ : ∃ Y, x * 512 = Y := ⟨_, rfl⟩
        obtain ⟨Z, hZ⟩ : ∃ Z, o * 512 = Z := ⟨_, rfl⟩
        rw [hY, hZ] at q7
        rw [hY] at wx wx2
        rw [hZ] at wo wo2
        have HYZ := Hid.of (And.intro hY hZ)
        clear q6 t6 k6 e3 fx fo hTk hY hZ
        go_wp2_with fail
        refine q7.mono ?_
        rintro e w7 ⟨rfl, r7⟩
        have hl7 : (Ar.cpy tk.S.B Y Z 512).length = tk.S.B.length := by rw [← HYZ.out.1, ← HYZ.out.2]; exact Ar.cpy_len HFit.out.1 HFit.out.2.1
        obtain ⟨v7, g7⟩ := G6.out.j.arena r7 hl7
        have G7 := Hid.of g7
        have q8 := Ar.zero_any w7 p v7 ⟨Ar.cpy tk.S.B Y Z 512, Ar.note (Ar.note tk.S.T Z 512 false) Y 512 true⟩ Z 512 g7.j.ar (by show Z + 512 ≤ (Ar.cpy tk.S.B Y Z 512).length; rw [hl7, ← HYZ.out.2]; exact HFit.out.2.1) (by
          have h1 := Ar.note_len (Ar.note tk.S.T Z 512 false) Y 512 true
          have h2 := Ar.note_len tk.S.T Z 512 false
          have h3 := HFit.out.2.2
          show (Ar.note (Ar.note tk.S.T Z 512 false) Y 512 true).length ≤ _
          omega)
        unfold Ar.DoneR at q8
        obtain ⟨z0, -, -, -, -⟩ := g7.j.h.four
        clear q7 r7 g7 f0 f1 f6
        go_wp2_with fail
        refine q8.mono ?_
        rintro e w8 ⟨rfl, r8⟩
        have hl8 : (bput (Ar.cpy tk.S.B Y Z 512) Z (List.replicate 512 0)).length = (Ar.cpy tk.S.B Y Z 512).length := bput_length _ _ _ (by rw [List.length_replicate, hl7, ← HYZ.out.2]; exact HFit.out.2.1)
        obtain ⟨v8, g8⟩ := G7.out.j.arena r8 hl8
        have G8 := Hid.of g8
        obtain ⟨-, z1, -, -, -⟩ := g8.j.h.four
        have q9 := Co.give_any w8 cp (Co.take tk.M tk.H.W) o g8.j.co (by rw [HTC.out.2]; exact HP.out.2.1)
        unfold Co.GiveR at q9
        clear q8 r8 g8 hl7 hl8 z0
        go_wp2_with fail
        refine q9.mono ?_
        rintro e w9 ⟨rfl, r9⟩
        have G9 := Hid.of (G8.out.j.map r9 rfl rfl)
        obtain ⟨-, -, -, -, z6⟩ := G9.out.j.h.four
        have lk := G9.out.j.h.look y
        have GA := Hid.of (show HG w4 { X with u := .slice A3 n0 cap3 } g p v cp t.H.D t.M.C { X with u := .slice A3 n0 cap3 } g v8 { tk.H with E := (Tab.swS tk.H.E tk.H.G y x).1, G := (Tab.swS tk.H.E tk.H.G y x).2 } ⟨bput (Ar.cpy tk.S.B Y Z 512) Z (List.replicate 512 0), Ar.note (Ar.note (Ar.note tk.S.T Z 512 false) Y 512 true) Z 512 true⟩ (Co.give (Co.take tk.M tk.H.W) o) w9 from by
          have e5 := G5.out
          have e6 := G6.out
          have e7 := G7.out
          have e8 := G8.out
          have e9 := G9.out
          rw [HTC.out.1] at e6 e7 e8 e9
          have e := (((e5.trans e6).trans e7).trans e8).trans e9
          rw [HI2.out.c] at e
          exact HI2.out.trans e)
        have HMv := Hid.of (show mov1 tk y = ⟨{ tk.H with E := (Tab.swS tk.H.E tk.H.G y x).1, G := (Tab.swS tk.H.E tk.H.G y x).2, D := movD tk.H.D y x }, ⟨bput (Ar.cpy tk.S.B Y Z 512) Z (List.replicate 512 0), Ar.note (Ar.note (Ar.note tk.S.T Z 512 false) Y 512 true) Z 512 true⟩, Co.give (Co.take tk.M tk.H.W) o⟩ from by
          unfold mov1 movB movN
          rw [HM.out.te, HM.out.fo]
          dsimp only
          rw [Int.toNat_natCast, Int.toNat_natCast, HYZ.out.1, HYZ.out.2])
        clear q9 r9 z1
        cases hD : eget tk.H.D y with
        | none =>
          have e1 : pgv g tk.H.D y = .pointer none := by unfold pgv; rw [hD]
          have e2 : movD tk.H.D y x = tk.H.D := by unfold movD; rw [hD]
          rw [e1] at lk
          have HF := Hid.of (show HG w4 { X with u := .slice A3 n0 cap3 } g p v cp t.H.D t.M.C { X with u := .slice A3 n0 cap3 } g v8 (movL (setW t W') (L.take (k + 1))).H (movL (setW t W') (L.take (k + 1))).S (movL (setW t W') (L.take (k + 1))).M w9 from by
            rw [HSn.out, HMv.out, e2]; exact GA.out)
          clear e1 e2 hD
          have hk6 : k < 6400 := HA.out.2.2.2
          go_wp2
          go_roundw
          case rel => exact ⟨k + 1, v8, by omega, by go_num, HF⟩
          case measure => simp [intOf]; omega
        | some P =>
          have e1 : pgv g tk.H.D y = .pointer (some ⟨(g y).b, 0, none⟩) := by unfold pgv; rw [hD]; rfl
          have e2 : movD tk.H.D y x = eset tk.H.D y { P with base := x * 512 } := by unfold movD; rw [hD]
          rw [e1] at lk
          have hD9 : eget ({ tk.H with E := (Tab.swS tk.H.E tk.H.G y x).1, G := (Tab.swS tk.H.E tk.H.G y x).2 } : HS).D y = some P := hD
          have qm := Pg.move_any w9 (g y) p v8 P _ Y (GA.out.j.pj hD9) (by rw [← HYZ.out.1]; omega) (by
            show Y + 512 ≤ (bput (Ar.cpy tk.S.B Y Z 512) Z (List.replicate 512 0)).length
            have h1 := HFit.out.1
            have h2 : (Ar.cpy tk.S.B Y Z 512).length = tk.S.B.length := by rw [← HYZ.out.1, ← HYZ.out.2]; exact Ar.cpy_len HFit.out.1 HFit.out.2.1
            rw [bput_length _ _ _ (by rw [List.length_replicate, h2, ← HYZ.out.2]; exact HFit.out.2.1), h2, ← HYZ.out.1]; exact h1)
          have HD9 := Hid.of hD9
          have HE2 := Hid.of e2
          clear e1 e2 hD hD9
          go_wp2_with fail
          refine qm.mono ?_
          rintro e wA ⟨rfl, jA, kA⟩
          have HF := Hid.of (show ∃ v', HG w4 { X with u := .slice A3 n0 cap3 } g p v cp t.H.D t.M.C { X with u := .slice A3 n0 cap3 } g v' (movL (setW t W') (L.take (k + 1))).H (movL (setW t W') (L.take (k + 1))).S (movL (setW t W') (L.take (k + 1))).M wA from by
            obtain ⟨v', gB⟩ := GA.out.j.page HD9.out (Pg.R.pg (GA.out.j.pj HD9.out) jA.pg kA) rfl
            rw [GA.out.c] at gB
            refine ⟨v', ?_⟩
            rw [HSn.out, HMv.out, HE2.out, HYZ.out.1]
            exact GA.out.trans gB)
          obtain ⟨vF, gF⟩ := HF.out
          have HF2 := Hid.of gF
          clear qm jA kA gF HF
          have hk6 : k < 6400 := HA.out.2.2.2
          go_wp2
          go_roundw
          case rel => exact ⟨k + 1, vF, by omega, by go_num, HF2⟩
          case measure => simp [intOf]; omega
      · obtain rfl : k = n := by omega
        have hkd : decide ((k : Int) < (k : Int)) = false := by simp
        have HF := Hid.of (show ∃ X' v', HG w X g p v cp t.H.D t.M.C X' g v' (movL (setW t W') L).H (movL (setW t W') L).S (movL (setW t W') L).M wr from by
          have e := HI.out
          rw [List.take_of_length_le (by rw [HJ0.out.2.2.2.2.2.2.2.2]; exact Nat.le_refl _)] at e
          exact ⟨_, _, ((HG.refl HJ0.out.1 HK2.out).trans G4.out).trans e⟩)
        clear HI hlt hk
        go_wp2
        go_ret
        exact ⟨rfl, HF.out⟩
end Hin
end Go.Proofs.YtnheibcjcgacpaaGreatDoor

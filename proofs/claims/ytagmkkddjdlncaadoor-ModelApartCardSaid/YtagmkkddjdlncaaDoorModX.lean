/- garthlaw23.awake (printed by gen_mdawake.py). | ModelNil's walk. -/
import Derived.Test.YtagmkkddjdlncaaDoorModE
import Derived.Test.YtagmkkddjdlncaaDoorOpg
set_option linter.unusedVariables false
set_option linter.unusedSimpArgs false
/-! garthlaw23.awake (printed by gen_mdawake.py). -/
namespace Go.Proofs.YtagmkkddjdlncaaDoor
open Go.RowKit Go.ChangeMaps
namespace Mo
/-- A model of the call's own. -/
structure MN (w0 : World) (m : Nat) (M : MM) (p : Pls) (w : World) : Prop where
  at' : MAt w m M p
  keeps : Keeps (fun _ => False) w0 w
  fresh : ∀ x, MFp m M p x → w0.heap.size ≤ x
theorem MN.tab {w0 w : World} {m : Nat} {M : MM} {p : Pls} (h : MN w0 m M p w) (hT : Sh.Tab w0) : Sh.Tab w := hT.old h.keeps
theorem MN.old {w0 w w' : World} {m : Nat} {M : MM} {p : Pls} (h : MN w0 m M p w) (k : Keeps (fun _ => False) w w') : MN w0 m M p w' := ⟨h.at'.old k, h.keeps.trans k, h.fresh⟩
theorem MN.step {w0 w w' : World} {m : Nat} {M M' : MM} {p : Pls} (h : MN w0 m M p w) (r : MR w m M p M' w') : ∃ p', MN w0 m M' p' w' ∧ Keeps (MFp m M p) w w' ∧ (∀ x, MFp m M' p' x → MFp m M p x ∨ w.heap.size ≤ x) := by
  obtain ⟨p', A, K, F⟩ := r
  refine ⟨p', ⟨A, h.keeps.trans' K (fun x hx hl => by have := h.fresh x hx; omega), fun x hx => ?_⟩, K, F⟩
  rcases F x hx with h1 | h1
  · exact h.fresh x h1
  · exact Nat.le_trans h.keeps.size h1
theorem nope {P : PP} (h : (none : Option PP) = some P) : False := by cases h
theorem MN.new {w0 w : World} {m Pg C : Nat} (hm : w.heap[m]? = some (.cells (md Pg C (fun _ => .pointer none) (fun _ => 1)) 51 (0, 0))) (h0 : w0.heap.size ≤ m) (k : Keeps (fun _ => False) w0 w) (hT : Sh.Tab w0) : MN w0 m (new Pg C) ⟨fun _ => ⟨0, 0, ⟨0, 0, 0, 0, .bool false, .bool false⟩⟩, fun _ _ => ⟨0, []⟩⟩ w := by
  refine ⟨⟨hm, fun i _ P h => (nope h).elim, fun i _ P h => (nope h).elim, fun i j _ _ _ P Q h => (nope h).elim, ?_⟩, k, ?_⟩
  · have := hT.lt; omega
  · rintro x (rfl | ⟨i, _, P, h, _⟩)
    · exact h0
    · exact (nope h).elim
/-- A block beside a model. -/
def Bl (w : World) (m : Nat) (M : MM) (p : Pls) (B : Nat) (o : Obj) : Prop := w.heap[B]? = some o ∧ ¬ MFp m M p B
theorem Bl.step {w w' : World} {m : Nat} {M M' : MM} {p p' : Pls} {B : Nat} {o : Obj} (h : Bl w m M p B o) (K : Keeps (MFp m M p) w w') (F : ∀ x, MFp m M' p' x → MFp m M p x ∨ w.heap.size ≤ x) : Bl w' m M' p' B o := by
  refine ⟨K.at h.1 h.2, fun hx => ?_⟩
  rcases F B hx with h1 | h1
  · exact h.2 h1
  · have := lt_of h.1; omega
theorem Bl.old {w w' : World} {m : Nat} {M : MM} {p : Pls} {B : Nat} {o : Obj} (h : Bl w m M p B o) (K : Keeps (fun _ => False) w w') : Bl w' m M p B o := ⟨K.at h.1 (fun x => x), h.2⟩
theorem Bl.new {w : World} {m : Nat} {M : MM} {p : Pls} (H : MAt w m M p) (o : Obj) : Bl (w.alloc o) m M p w.heap.size o := ⟨alloc_new _ _, fun hx => by have := H.lt hx; omega⟩
def aw0 : MM := (mdo (new 64 4) ⟨1, 0, 100, 1, 0, bs []⟩).2
theorem aw0_a : (mdo (new 64 4) ⟨1, 0, 100, 1, 0, bs []⟩).1 = ⟨0, 0, 0, 0, bs [], 0⟩ := by kernel_rfl
theorem aw0_ok : MOk aw0 := (MOk.new (by unfold cfg; omega)).mdo _
theorem aw0_q (w : World) (mm : Nat) (p : Pls) (H : MAt w mm (new 64 4) p) (hT : Sh.Tab w) :
    Calls Tryd.prog 9 #[.pointer (some ⟨mm, 0, none⟩), .agg #[.int .i64 1, .int .i64 0, .int .i64 100, .int .i64 1, .int .u64 0, .string (bs [])]] w fun e w' => e = .returned (.agg #[.int .i64 0, .int .u64 0, .int .i64 0, .int .i64 0, .string (bs []), .int .i64 0]) ∧ MR w mm (new 64 4) p aw0 w' := by
  have q := mdo_any' w mm (new 64 4) p 1 0 100 1 0 [] H (MOk.new (by unfold cfg; omega)) hT (by omega) (by decide) (by omega) (by omega)
  rw [show ((0 : Nat) : Int) = 0 from rfl, aw0_a] at q
  exact q
def aw1 : MM := (mdo (aw0) ⟨4, 0, 40, 0, 0, bs []⟩).2
theorem aw1_a : (mdo (aw0) ⟨4, 0, 40, 0, 0, bs []⟩).1 = ⟨0, 1048688, 0, 0, bs [], 48⟩ := by kernel_rfl
theorem aw1_ok : MOk aw1 := (aw0_ok).mdo _
theorem aw1_q (w : World) (mm : Nat) (p : Pls) (H : MAt w mm (aw0) p) (hT : Sh.Tab w) :
    Calls Tryd.prog 9 #[.pointer (some ⟨mm, 0, none⟩), .agg #[.int .i64 4, .int .i64 0, .int .i64 40, .int .i64 0, .int .u64 0, .string (bs [])]] w fun e w' => e = .returned (.agg #[.int .i64 0, .int .u64 1048688, .int .i64 0, .int .i64 0, .string (bs []), .int .i64 48]) ∧ MR w mm (aw0) p aw1 w' := by
  have q := mdo_any' w mm (aw0) p 4 0 40 0 0 [] H (aw0_ok) hT (by omega) (by decide) (by omega) (by omega)
  rw [show ((0 : Nat) : Int) = 0 from rfl, aw1_a] at q
  exact q
def aw2 : MM := (mdo (aw1) ⟨10, 0, 38, 0, 1048688, bs [97, 98]⟩).2
theorem aw2_a : (mdo (aw1) ⟨10, 0, 38, 0, 1048688, bs [97, 98]⟩).1 = ⟨0, 0, 0, 0, bs [], 48⟩ := by kernel_rfl
theorem aw2_ok : MOk aw2 := (aw1_ok).mdo _
theorem aw2_q (w : World) (mm : Nat) (p : Pls) (H : MAt w mm (aw1) p) (hT : Sh.Tab w) :
    Calls Tryd.prog 9 #[.pointer (some ⟨mm, 0, none⟩), .agg #[.int .i64 10, .int .i64 0, .int .i64 38, .int .i64 0, .int .u64 1048688, .string (bs [97, 98])]] w fun e w' => e = .returned (.agg #[.int .i64 0, .int .u64 0, .int .i64 0, .int .i64 0, .string (bs []), .int .i64 48]) ∧ MR w mm (aw1) p aw2 w' := by
  have q := mdo_any' w mm (aw1) p 10 0 38 0 1048688 [97, 98] H (aw1_ok) hT (by omega) (by decide) (by omega) (by omega)
  rw [show ((1048688 : Nat) : Int) = 1048688 from rfl, aw2_a] at q
  exact q
def aw3 : MM := (mdo (aw2) ⟨7, 0, 39, 0, 1048688, bs []⟩).2
theorem aw3_a : (mdo (aw2) ⟨7, 0, 39, 0, 1048688, bs []⟩).1 = ⟨0, 1048688, 0, 0, bs [], 48⟩ := by kernel_rfl
theorem aw3_ok : MOk aw3 := (aw2_ok).mdo _
theorem aw3_q (w : World) (mm : Nat) (p : Pls) (H : MAt w mm (aw2) p) (hT : Sh.Tab w) :
    Calls Tryd.prog 9 #[.pointer (some ⟨mm, 0, none⟩), .agg #[.int .i64 7, .int .i64 0, .int .i64 39, .int .i64 0, .int .u64 1048688, .string (bs [])]] w fun e w' => e = .returned (.agg #[.int .i64 0, .int .u64 1048688, .int .i64 0, .int .i64 0, .string (bs []), .int .i64 48]) ∧ MR w mm (aw2) p aw3 w' := by
  have q := mdo_any' w mm (aw2) p 7 0 39 0 1048688 [] H (aw2_ok) hT (by omega) (by decide) (by omega) (by omega)
  rw [show ((1048688 : Nat) : Int) = 1048688 from rfl, aw3_a] at q
  exact q
def aw4 : MM := (mdo (aw3) ⟨7, 0, 40, 0, 1048688, bs []⟩).2
theorem aw4_a : (mdo (aw3) ⟨7, 0, 40, 0, 1048688, bs []⟩).1 = ⟨0, 1048688, 0, 0, bs [], 48⟩ := by kernel_rfl
theorem aw4_ok : MOk aw4 := (aw3_ok).mdo _
theorem aw4_q (w : World) (mm : Nat) (p : Pls) (H : MAt w mm (aw3) p) (hT : Sh.Tab w) :
    Calls Tryd.prog 9 #[.pointer (some ⟨mm, 0, none⟩), .agg #[.int .i64 7, .int .i64 0, .int .i64 40, .int .i64 0, .int .u64 1048688, .string (bs [])]] w fun e w' => e = .returned (.agg #[.int .i64 0, .int .u64 1048688, .int .i64 0, .int .i64 0, .string (bs []), .int .i64 48]) ∧ MR w mm (aw3) p aw4 w' := by
  have q := mdo_any' w mm (aw3) p 7 0 40 0 1048688 [] H (aw3_ok) hT (by omega) (by decide) (by omega) (by omega)
  rw [show ((1048688 : Nat) : Int) = 1048688 from rfl, aw4_a] at q
  exact q
def aw5 : MM := (mdo (aw4) ⟨9, 0, 37, 3, 1048688, bs []⟩).2
theorem aw5_a : (mdo (aw4) ⟨9, 0, 37, 3, 1048688, bs []⟩).1 = ⟨0, 0, 0, 0, bs [0, 97, 0], 48⟩ := by kernel_rfl
theorem aw5_ok : MOk aw5 := (aw4_ok).mdo _
theorem aw5_q (w : World) (mm : Nat) (p : Pls) (H : MAt w mm (aw4) p) (hT : Sh.Tab w) :
    Calls Tryd.prog 9 #[.pointer (some ⟨mm, 0, none⟩), .agg #[.int .i64 9, .int .i64 0, .int .i64 37, .int .i64 3, .int .u64 1048688, .string (bs [])]] w fun e w' => e = .returned (.agg #[.int .i64 0, .int .u64 0, .int .i64 0, .int .i64 0, .string (bs [0, 97, 0]), .int .i64 48]) ∧ MR w mm (aw4) p aw5 w' := by
  have q := mdo_any' w mm (aw4) p 9 0 37 3 1048688 [] H (aw4_ok) hT (by omega) (by decide) (by omega) (by omega)
  rw [show ((1048688 : Nat) : Int) = 1048688 from rfl, aw5_a] at q
  exact q
theorem aw_obj : (object aw5 0 1048688).2 = true ∧ (object aw5 0 1048688).1.length = 40 := ⟨by kernel_rfl, by kernel_rfl⟩
theorem aw_free : free aw5 = 3 := by kernel_rfl
theorem aw_eq (a b : XAns) (h : a = b) : ansEq a.err a.handle a.addr a.n a.data a.charged b.err b.handle b.addr b.n b.data b.charged = true := by subst h; simp [ansEq]
set_option maxRecDepth 100000 in
set_option maxHeartbeats 4000000 in
theorem awake_any (w : World) (hT : Sh.Tab w) :
    Calls Tryd.prog 7 #[] w fun e w' => e = .returned (.bool true) ∧ Keeps (fun _ => False) w w' := by
  have q0 := new_any w 64 4 (by unfold cfg; omega)
  unfold NewR at q0
  go_enter Tryd.func7, Tryd.ntmps7
  go_wp2_with fail
  refine q0.mono ?_
  rintro e w0 ⟨m, rfl, hm, h0, k0⟩
  have N0 := Hid.of (MN.new hm h0 k0 hT)
  clear q0 hm h0 k0
  have q := aw0_q w0 m _ N0.out.at' (N0.out.tab hT)
  go_wp2_with fail
  refine q.mono ?_
  rintro e v0 ⟨rfl, r⟩
  obtain ⟨p1, N', K, F⟩ := N0.out.step r
  obtain ⟨b0, hb0⟩ : ∃ b, v0.heap.size = b := ⟨_, rfl⟩
  obtain ⟨w1, hw⟩ : ∃ x, v0.alloc (.cells #[.int .i64 0, .int .u64 0, .int .i64 0, .int .i64 0, .string (bs []), .int .i64 0] 36) = x := ⟨_, rfl⟩
  have kk : Keeps (fun _ => False) v0 w1 := by rw [← hw]; exact (Keeps.refl _ _).alloc _
  have l0 := Hid.of (Bl.new N'.at' (.cells #[.int .i64 0, .int .u64 0, .int .i64 0, .int .i64 0, .string (bs []), .int .i64 0] 36))
  rw [hw, hb0] at l0
  have N1 := Hid.of (N'.old kk)
  have HW := Hid.of hw
  clear hw
  clear q r N' K F kk N0
  have q := aw1_q w1 m _ N1.out.at' (N1.out.tab hT)
  go_wp2_with fail
  rw [HW.out]
  refine q.mono ?_
  rintro e v1 ⟨rfl, r⟩
  obtain ⟨p2, N', K, F⟩ := N1.out.step r
  have l0 := Hid.of (l0.out.step K F)
  obtain ⟨b1, hb1⟩ : ∃ b, v1.heap.size = b := ⟨_, rfl⟩
  obtain ⟨w2, hw⟩ : ∃ x, v1.alloc (.cells #[.int .i64 0, .int .u64 1048688, .int .i64 0, .int .i64 0, .string (bs []), .int .i64 48] 36) = x := ⟨_, rfl⟩
  have kk : Keeps (fun _ => False) v1 w2 := by rw [← hw]; exact (Keeps.refl _ _).alloc _
  have l1 := Hid.of (Bl.new N'.at' (.cells #[.int .i64 0, .int .u64 1048688, .int .i64 0, .int .i64 0, .string (bs []), .int .i64 48] 36))
  rw [hw, hb1] at l1
  have l0 := Hid.of (l0.out.old kk)
  have N2 := Hid.of (N'.old kk)
  clear q r N' K F kk N1
  have hc1 := cell_of l1.out.1 1 rfl
  have q := aw2_q w2 m _ N2.out.at' (N2.out.tab hT)
  go_wp2_with fail
  refine q.mono ?_
  rintro e v2 ⟨rfl, r⟩
  obtain ⟨p3, N', K, F⟩ := N2.out.step r
  have l0 := Hid.of (l0.out.step K F)
  have l1 := Hid.of (l1.out.step K F)
  obtain ⟨b2, hb2⟩ : ∃ b, v2.heap.size = b := ⟨_, rfl⟩
  obtain ⟨w3, hw⟩ : ∃ x, v2.alloc (.cells #[.int .i64 0, .int .u64 0, .int .i64 0, .int .i64 0, .string (bs []), .int .i64 48] 36) = x := ⟨_, rfl⟩
  have kk : Keeps (fun _ => False) v2 w3 := by rw [← hw]; exact (Keeps.refl _ _).alloc _
  have l2 := Hid.of (Bl.new N'.at' (.cells #[.int .i64 0, .int .u64 0, .int .i64 0, .int .i64 0, .string (bs []), .int .i64 48] 36))
  rw [hw, hb2] at l2
  have l0 := Hid.of (l0.out.old kk)
  have l1 := Hid.of (l1.out.old kk)
  have N3 := Hid.of (N'.old kk)
  clear q r N' K F kk N2
  have hc1 := cell_of l1.out.1 1 rfl
  have q := aw3_q w3 m _ N3.out.at' (N3.out.tab hT)
  go_wp2_with fail
  refine q.mono ?_
  rintro e v3 ⟨rfl, r⟩
  obtain ⟨p4, N', K, F⟩ := N3.out.step r
  have l0 := Hid.of (l0.out.step K F)
  have l1 := Hid.of (l1.out.step K F)
  have l2 := Hid.of (l2.out.step K F)
  obtain ⟨b3, hb3⟩ : ∃ b, v3.heap.size = b := ⟨_, rfl⟩
  obtain ⟨w4, hw⟩ : ∃ x, v3.alloc (.cells #[.int .i64 0, .int .u64 1048688, .int .i64 0, .int .i64 0, .string (bs []), .int .i64 48] 36) = x := ⟨_, rfl⟩
  have kk : Keeps (fun _ => False) v3 w4 := by rw [← hw]; exact (Keeps.refl _ _).alloc _
  have l3 := Hid.of (Bl.new N'.at' (.cells #[.int .i64 0, .int .u64 1048688, .int .i64 0, .int .i64 0, .string (bs []), .int .i64 48] 36))
  rw [hw, hb3] at l3
  have l0 := Hid.of (l0.out.old kk)
  have l1 := Hid.of (l1.out.old kk)
  have l2 := Hid.of (l2.out.old kk)
  have N4 := Hid.of (N'.old kk)
  clear q r N' K F kk N3
  have hc1 := cell_of l1.out.1 1 rfl
  have q := aw4_q w4 m _ N4.out.at' (N4.out.tab hT)
  go_wp2_with fail
  refine q.mono ?_
  rintro e v4 ⟨rfl, r⟩
  obtain ⟨p5, N', K, F⟩ := N4.out.step r
  have l0 := Hid.of (l0.out.step K F)
  have l1 := Hid.of (l1.out.step K F)
  have l2 := Hid.of (l2.out.step K F)
  have l3 := Hid.of (l3.out.step K F)
  obtain ⟨b4, hb4⟩ : ∃ b, v4.heap.size = b := ⟨_, rfl⟩
  obtain ⟨w5, hw⟩ : ∃ x, v4.alloc (.cells #[.int .i64 0, .int .u64 1048688, .int .i64 0, .int .i64 0, .string (bs []), .int .i64 48] 36) = x := ⟨_, rfl⟩
  have kk : Keeps (fun _ => False) v4 w5 := by rw [← hw]; exact (Keeps.refl _ _).alloc _
  have l4 := Hid.of (Bl.new N'.at' (.cells #[.int .i64 0, .int .u64 1048688, .int .i64 0, .int .i64 0, .string (bs []), .int .i64 48] 36))
  rw [hw, hb4] at l4
  have l0 := Hid.of (l0.out.old kk)
  have l1 := Hid.of (l1.out.old kk)
  have l2 := Hid.of (l2.out.old kk)
  have l3 := Hid.of (l3.out.old kk)
  have N5 := Hid.of (N'.old kk)
  clear q r N' K F kk N4
  have hc1 := cell_of l1.out.1 1 rfl
  have q := aw5_q w5 m _ N5.out.at' (N5.out.tab hT)
  go_wp2_with fail
  refine q.mono ?_
  rintro e v5 ⟨rfl, r⟩
  obtain ⟨p6, N', K, F⟩ := N5.out.step r
  have l0 := Hid.of (l0.out.step K F)
  have l1 := Hid.of (l1.out.step K F)
  have l2 := Hid.of (l2.out.step K F)
  have l3 := Hid.of (l3.out.step K F)
  have l4 := Hid.of (l4.out.step K F)
  obtain ⟨b5, hb5⟩ : ∃ b, v5.heap.size = b := ⟨_, rfl⟩
  obtain ⟨w6, hw⟩ : ∃ x, v5.alloc (.cells #[.int .i64 0, .int .u64 0, .int .i64 0, .int .i64 0, .string (bs [0, 97, 0]), .int .i64 48] 36) = x := ⟨_, rfl⟩
  have kk : Keeps (fun _ => False) v5 w6 := by rw [← hw]; exact (Keeps.refl _ _).alloc _
  have l5 := Hid.of (Bl.new N'.at' (.cells #[.int .i64 0, .int .u64 0, .int .i64 0, .int .i64 0, .string (bs [0, 97, 0]), .int .i64 48] 36))
  rw [hw, hb5] at l5
  have l0 := Hid.of (l0.out.old kk)
  have l1 := Hid.of (l1.out.old kk)
  have l2 := Hid.of (l2.out.old kk)
  have l3 := Hid.of (l3.out.old kk)
  have l4 := Hid.of (l4.out.old kk)
  have N6 := Hid.of (N'.old kk)
  clear q r N' K F kk N5
  have hc1 := cell_of l1.out.1 1 rfl
  have q := object_any w6 m aw5 _ 0 1048688 N6.out.at' aw5_ok (by omega)
  go_wp2_with fail
  refine q.mono ?_
  rintro e x0 ⟨rfl, kx⟩
  obtain ⟨ob1, ob2⟩ := aw_obj
  rw [ob1]
  generalize (object aw5 0 1048688).1 = ob at *
  have l0 := Hid.of (l0.out.old kx)
  have l1 := Hid.of (l1.out.old kx)
  have l2 := Hid.of (l2.out.old kx)
  have l3 := Hid.of (l3.out.old kx)
  have l4 := Hid.of (l4.out.old kx)
  have l5 := Hid.of (l5.out.old kx)
  have N7 := Hid.of (N6.out.old kx)
  clear q kx N6 ob1
  have qf := free_any x0 m aw5 _ N7.out.at' aw5_ok
  rw [aw_free] at qf
  obtain ⟨⟨c00, c01, c02, c03, z0, c05⟩, -⟩ := six_cells l0.out.1
  have c04 : x0.cell? ⟨b0, 4, none⟩ = some (.string ⟨#[]⟩) := z0
  clear z0
  obtain ⟨⟨c10, c11, c12, c13, z1, c15⟩, -⟩ := six_cells l1.out.1
  have c14 : x0.cell? ⟨b1, 4, none⟩ = some (.string ⟨#[]⟩) := z1
  clear z1
  obtain ⟨⟨c20, c21, c22, c23, z2, c25⟩, -⟩ := six_cells l2.out.1
  have c24 : x0.cell? ⟨b2, 4, none⟩ = some (.string ⟨#[]⟩) := z2
  clear z2
  obtain ⟨⟨c30, c31, c32, c33, z3, c35⟩, -⟩ := six_cells l3.out.1
  have c34 : x0.cell? ⟨b3, 4, none⟩ = some (.string ⟨#[]⟩) := z3
  clear z3
  obtain ⟨⟨c40, c41, c42, c43, z4, c45⟩, -⟩ := six_cells l4.out.1
  have c44 : x0.cell? ⟨b4, 4, none⟩ = some (.string ⟨#[]⟩) := z4
  clear z4
  obtain ⟨⟨c50, c51, c52, c53, z5, c55⟩, -⟩ := six_cells l5.out.1
  have c54 : x0.cell? ⟨b5, 4, none⟩ = some (.string ⟨#[0, 97, 0]⟩) := z5
  clear z5
  go_wp2_with fail
  refine qf.mono ?_
  rintro e x1 ⟨rfl, rfl⟩
  clear qf
  go_wp2
  go_ret
  exact ⟨rfl, N7.out.keeps⟩
end Mo
end Go.Proofs.YtagmkkddjdlncaaDoor

/-! ModelNil's walk. -/
namespace Go.Proofs.YtagmkkddjdlncaaDoor
open Go.RowKit Go.ChangeMaps
namespace Mo
set_option maxRecDepth 100000 in
set_option maxHeartbeats 4000000 in
theorem nil_any (w : World) (o : GOp) (ok : o.Ok) (id : Int) (hT : Sh.Tab w) :
    Calls Tryd.prog 4 #[.agg o.enc.toArray, .int .i64 id] w fun e w' => e = .returned (.bool true) ∧ Keeps (fun _ => False) w w' := by
  obtain ⟨kind, t, n, m, h, d⟩ := o
  unfold GOp.enc
  dsimp only
  have hd := ok.d
  simp only at hd
  unfold maxLen at hd
  obtain ⟨w1, hw1⟩ : ∃ w1, w.alloc (.cells #[.int .i64 kind, .int .i64 t, .int .i64 n, .int .i64 m, .int .u64 h, .string (bs d)] 34) = w1 := ⟨_, rfl⟩
  have k1 : Keeps (fun _ => False) w w1 := by rw [← hw1]; exact (Keeps.refl _ _).alloc _
  have a1 : w1.heap[w.heap.size]? = some (.cells #[.int .i64 kind, .int .i64 t, .int .i64 n, .int .i64 m, .int .u64 h, .string (bs d)] 34 (0, 0)) := by rw [← hw1]; exact alloc_new _ _
  obtain ⟨A, hA⟩ : ∃ A, w.heap.size = A := ⟨_, rfl⟩
  rw [hA] at a1
  obtain ⟨⟨x0, x1, x2, x3, x4, x5⟩, -⟩ := six_cells a1
  have T1 := hT.old k1
  have qa := awake_any w1 T1
  have HK1 := Hid.of (And.intro k1 a1)
  clear k1 a1 hT
  by_cases hl : 16384 < d.length
  · clear ok T1
    go_enter Tryd.func4, Tryd.ntmps4
    go_wp2_with fail
    refine qa.mono ?_
    rintro e w2 ⟨rfl, k2⟩
    have HF := Hid.of (HK1.out.1.trans k2)
    clear qa k2
    go_wp2
    go_ret
    exact ⟨rfl, HF.out⟩
  · have hl2 : decide ((16384 : Int) < (d.length : Int)) = false := by simp; omega
    have q1 := object_nil w1 id h
    have q2 := fun w => do_nil w ⟨kind, t, n, m, h, bs d⟩
    unfold XOp.enc XAns.enc at q2
    dsimp only at q2
    have q3 := fun w => live_nil w id
    have q4 := fun w => charged_nil w id
    have q5 := fun w => free_nil w
    have q6 := fun w => copy_nil w
    clear ok T1 hl
    go_enter Tryd.func4, Tryd.ntmps4
    go_wp2_with fail
    refine q1.mono ?_
    rintro e w2 ⟨rfl, rfl⟩
    clear q1
    go_wp2_with fail
    refine qa.mono ?_
    rintro e w2 ⟨rfl, k2⟩
    have q := q2 w2
    obtain ⟨⟨y0, y1, y2, y3, y4, y5⟩, -⟩ := six_cells (k2.at HK1.out.2 (fun x => x))
    have HK2 := Hid.of (HK1.out.1.trans k2)
    clear qa k2 q2 HK1
    go_wp2_with fail
    refine q.mono ?_
    rintro e w3 ⟨rfl, k3⟩
    have HK3 := Hid.of (HK2.out.trans k3)
    have q := q3 w3
    clear k3 HK2 q3
    go_wp2_with fail
    refine q.mono ?_
    rintro e w4 ⟨rfl, rfl⟩
    have q := q4 w3
    clear q4
    go_wp2_with fail
    refine q.mono ?_
    rintro e w4 ⟨rfl, rfl⟩
    have q := q5 w3
    clear q5
    go_wp2_with fail
    refine q.mono ?_
    rintro e w4 ⟨rfl, rfl⟩
    have q := q6 w3
    clear q6
    go_wp2_with fail
    refine q.mono ?_
    rintro e w4 ⟨rfl, rfl⟩
    clear q
    go_wp2
    go_ret
    exact ⟨rfl, HK3.out⟩
end Mo
end Go.Proofs.YtagmkkddjdlncaaDoor

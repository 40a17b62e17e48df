/- garthlaw17's made: both heaps, and the document's. -/
import Derived.Test.YtnheibcjcgacpaaGreatDoorHek
import Derived.Test.YtnheibcjcgacpaaGreatDoorHip
set_option linter.unusedVariables false
set_option linter.unusedSimpArgs false
namespace Go.Proofs.YtnheibcjcgacpaaGreatDoor
open Go.RowKit Go.ChangeMaps
namespace Hm
open He Hin Co
set_option maxRecDepth 100000 in
theorem right_any (w : World) (P C : Nat) (h : Cfg P C) : Calls Tryz.prog 39 #[.agg #[.int .i64 P, .int .i64 C]] w fun e w' => e = .returned (.bool true) ∧ Keeps (fun _ => False) w w' := by
  unfold Cfg at h
  obtain ⟨h1, h2, h3, h4, h5⟩ := h
  obtain ⟨w1, hw1⟩ : ∃ w1, w.alloc (.cells #[.int .i64 P, .int .i64 C] 23) = w1 := ⟨_, rfl⟩
  have k1 : Keeps (fun _ => False) w w1 := by rw [← hw1]; exact (Keeps.refl _ _).alloc _
  have b1 : w1.heap[w.heap.size]? = some (.cells #[.int .i64 P, .int .i64 C] 23 (0, 0)) := by rw [← hw1]; exact alloc_new _ _
  have c0 := cell_of (v := .int .i64 P) b1 0 rfl
  have c1 := cell_of (v := .int .i64 C) b1 1 rfl
  have HK := Hid.of k1
  have e5 : (P : Int).tmod (C : Int) = 0 := by rw [Int.tmod_eq_emod_of_nonneg (by omega)]; exact h5
  have t1 : decide ((1 : Int) ≤ (C : Int)) = true := by simpa using h1
  have t2 : decide ((C : Int) ≤ 32) = true := by simpa using h2
  have t3 : decide ((1 : Int) ≤ (P : Int)) = true := by simpa using h3
  have t4 : decide ((P : Int) ≤ 4096) = true := by simpa using h4
  have t1' : decide (1 ≤ C) = true := by simp; omega
  have t2' : decide (C ≤ 32) = true := by simp; omega
  have t3' : decide (1 ≤ P) = true := by simp; omega
  have t4' : decide (P ≤ 4096) = true := by simp; omega
  have f1 : ¬ C = 0 := by omega
  have f2 : ((C : Int) == 0) = false := by simp; omega
  have f3 : ¬ (C : Int) = 0 := by omega
  clear h1 h2 h3 h4 h5 k1 b1
  go_enter Tryz.func39, Tryz.ntmps39
  go_wp2
  go_ret
  exact ⟨rfl, HK.out⟩
def bools (L : List Bool) : List Value := L.map (fun b => .bool b)
theorem slBools : SlT Tryz.prog 174 4 1 1 := SlT.mk' (z := .bool false) Tryz.underlying174 (by kernel_rfl) rfl (by decide)
theorem make_bools (w : World) (m : Nat) (hm : m ≤ 1000000) : (Instr.makeSlice 174 (.int .i64 m) (.int .i64 m)).run Tryz.prog w = .ok (.slice (some ⟨w.heap.size, 0, none⟩) m m) (w.alloc (.cells (bools (List.replicate m false)).toArray 4)) := by
  obtain ⟨i, z, hi, hz, h2, h3, h4⟩ := slBools.info
  have hz' : z = .bool false := by
    have h : (Tryz.prog.info? 4).map (fun i => i.zero) = some (some (.bool false)) := by kernel_rfl
    rw [hi] at h; simp at h; rw [hz] at h; simpa using h
  subst hz'
  have := run_make (P := Tryz.prog) w 174 4 i _ slBools.ht hi hz .i64 .i64 m m (by omega) (by omega) (by rw [h3]; omega) (by omega)
  rw [this, h2]
  have e0 : madeCells #[Value.bool false] m = (bools (List.replicate m false)).toArray := by
    unfold bools
    apply Array.ext
    · simp [madeCells]
    · intro i h1 h2
      simp [madeCells, Nat.mod_one]
  have e : madeCells (Value.bool false).cells ((m : Int).toNat * 1) = (bools (List.replicate m false)).toArray := by
    rw [Int.toNat_natCast, Nat.mul_one]
    exact e0
  rw [e]; simp
/-- The document's map as it is new. -/
def New7 (w : World) (P C : Nat) (e : Ending) (w' : World) : Prop := ∃ y g, e = .returned (.tuple #[.pointer (some ⟨y, 0, none⟩), .int .i64 0]) ∧ w'.heap[y]? = some (.cells #[.int .i64 P, .int .i64 C, .slice (some ⟨g, 0, none⟩) P P] 176 (0, 0)) ∧ w'.heap[g]? = some (.cells (bools (List.replicate P false)).toArray 4 (0, 0)) ∧ w.heap.size ≤ y ∧ w.heap.size ≤ g ∧ y ≠ g ∧ Keeps (fun _ => False) w w'
set_option maxRecDepth 100000 in
theorem new7_any (w : World) (P C : Nat) (h : Cfg P C) : Calls Tryz.prog 70 #[.agg #[.int .i64 P, .int .i64 C]] w (New7 w P C) := by
  obtain ⟨w1, hw1⟩ : ∃ w1, w.alloc (.cells #[.int .i64 P, .int .i64 C] 23) = w1 := ⟨_, rfl⟩
  have k1 : Keeps (fun _ => False) w w1 := by rw [← hw1]; exact (Keeps.refl _ _).alloc _
  have b1 : w1.heap[w.heap.size]? = some (.cells #[.int .i64 P, .int .i64 C] 23 (0, 0)) := by rw [← hw1]; exact alloc_new _ _
  have c0 := cell_of (v := .int .i64 P) b1 0 rfl
  have c1 := cell_of (v := .int .i64 C) b1 1 rfl
  obtain ⟨cb, hcb⟩ : ∃ cb, w.heap.size = cb := ⟨_, rfl⟩
  rw [hcb] at b1 c0 c1
  have q := right_any w1 P C h
  have hP : P ≤ 4096 := by unfold Cfg at h; omega
  have HK := Hid.of (And.intro k1 (And.intro b1 hcb))
  clear k1 b1 h
  go_enter Tryz.func70, Tryz.ntmps70
  go_wp2_with fail
  refine q.mono ?_
  rintro e w2 ⟨rfl, k2⟩
  have b2 := k2.at HK.out.2.1 (fun x => x)
  have d0 := cell_of (v := .int .i64 (P : Int)) b2 0 rfl
  have d1 := cell_of (v := .int .i64 (C : Int)) b2 1 rfl
  have mk := make_bools w2.drew P (by omega)
  obtain ⟨w3, hw3⟩ : ∃ w3, w2.drew.alloc (.cells (bools (List.replicate P false)).toArray 4) = w3 := ⟨_, rfl⟩
  rw [hw3] at mk
  obtain ⟨g, hg⟩ : ∃ g, w2.drew.heap.size = g := ⟨_, rfl⟩
  rw [hg] at mk
  have k3 : Keeps (fun _ => False) w2 w3 := by rw [← hw3]; exact ((Keeps.refl _ _).drew).alloc _
  have b3 : w3.heap[g]? = some (.cells (bools (List.replicate P false)).toArray 4 (0, 0)) := by rw [← hw3, ← hg]; exact alloc_new _ _
  have d0' := cell_of (v := .int .i64 (P : Int)) (k3.at b2 (fun x => x)) 0 rfl
  have d1' := cell_of (v := .int .i64 (C : Int)) (k3.at b2 (fun x => x)) 1 rfl
  have HK2 := Hid.of (And.intro ((HK.out.1.trans k2).trans k3) (And.intro b3 (show w.heap.size ≤ g by rw [← hg]; exact (HK.out.1.trans k2).size)))
  clear q c0 c1 k2 b2 hw1 hcb k3 b3 hg HK
  go_wp2_with fail
  go_region
  all_goals
    go_wp2
    go_ret2
    obtain ⟨K3, b3, hl⟩ := HK2.out
    have hl3 := lt_of b3
    exact ⟨_, g, rfl, alloc_new _ _, alloc_old b3 _, K3.size, hl, by omega, K3.alloc _⟩
/-- The document's arena as it is new. -/
def New1 (w : World) (n : Nat) (e : Ending) (w' : World) : Prop := ∃ x g, e = .returned (.tuple #[.pointer (some ⟨x, 0, none⟩), .int .i64 0]) ∧ w'.heap[x]? = some (.cells #[.slice (some ⟨g, 0, none⟩) n n, .slice none 0 0] 84 (0, 0)) ∧ w'.heap[g]? = some (.cells (u8s (List.replicate n 0)).toArray 5 (0, 0)) ∧ w.heap.size ≤ x ∧ w.heap.size ≤ g ∧ x ≠ g ∧ Keeps (fun _ => False) w w'
set_option maxRecDepth 100000 in
theorem new1_any (w : World) (n : Nat) (hn : n ≤ 2097152) : Calls Tryz.prog 71 #[.int .i64 n] w (New1 w n) := by
  have hm := Ar.make_bytes' w n hn
  obtain ⟨w1, hw1⟩ : ∃ w1, w.alloc (.cells (u8s (List.replicate n 0)).toArray 5) = w1 := ⟨_, rfl⟩
  rw [hw1] at hm
  have k1 : Keeps (fun _ => False) w w1 := by rw [← hw1]; exact (Keeps.refl _ _).alloc _
  have b1 : w1.heap[w.heap.size]? = some (.cells (u8s (List.replicate n 0)).toArray 5 (0, 0)) := by rw [← hw1]; exact alloc_new _ _
  obtain ⟨g, hg⟩ : ∃ g, w.heap.size = g := ⟨_, rfl⟩
  rw [hg] at b1 hm
  have hd1 : decide ((n : Int) < 0) = false := by simp
  have hd2 : decide ((2097152 : Int) < (n : Int)) = false := by simp; omega
  have HK := Hid.of (And.intro k1 (And.intro b1 hg))
  clear hn k1 b1 hw1 hg
  go_enter Tryz.func71, Tryz.ntmps71
  go_wp2
  go_ret2
  obtain ⟨k1, b1, hg⟩ := HK.out
  have hg1 : g < w1.heap.size := lt_of b1
  exact ⟨_, g, rfl, alloc_new _ _, alloc_old b1 _, k1.size, by omega, by omega, k1.alloc _⟩
def nilS : Value := .slice none 0 0
/-- The document's heap as it is new. -/
def New17 (w : World) (a m : Value) (W : List Int) (e : Ending) (w' : World) : Prop := ∃ r tb u, e = .returned (.pointer (some ⟨r, 0, none⟩)) ∧ w'.heap[r]? = some (.cells #[a, m, u, .pointer (some ⟨tb, 0, none⟩), .slice none 0 0, .slice none 0 0, .slice none 0 0, .slice none 0 0, .slice none 0 0, .slice none 0 0, .slice none 0 0, .slice none 0 0, .slice none 0 0] 82 (0, 0)) ∧ w'.heap[tb]? = some (.cells #[.slice none 0 0] 75 (0, 0)) ∧ OutR 3 1 w.heap.size w' u W.length (ints W) ∧ w.heap.size ≤ r ∧ w.heap.size ≤ tb ∧ r ≠ tb ∧ Keeps (fun _ => False) w w'
set_option maxRecDepth 100000 in
set_option maxHeartbeats 2000000 in
theorem new17_any (w : World) (ab mb : Nat) (A : Option Addr) (m cap : Nat) (W : List Int) (hA : A = none → m = 0 ∧ cap = 0) (hl : W.length = m) (hr : Rd w A (ints W)) (hm : m ≤ 17592186044416) : Calls Tryz.prog 80 #[.pointer (some ⟨ab, 0, none⟩), .pointer (some ⟨mb, 0, none⟩), .slice A m cap] w (New17 w (.pointer (some ⟨ab, 0, none⟩)) (.pointer (some ⟨mb, 0, none⟩)) W) := by
  obtain ⟨w1, hw1⟩ : ∃ w1, w.alloc (.cells #[] 3) = w1 := ⟨_, rfl⟩
  have o1 : Own w1 3 1 (.slice (some ⟨w.heap.size, 0, none⟩) 0 0) 0 [] := by rw [← hw1]; exact own_empty _ _ _
  have kk1 : Keeps (fun _ => False) w w1 := by rw [← hw1]; exact (Keeps.refl _ _).alloc _
  have h1c : ∀ u ∈ ints W, u.oneCell' = true := fun u hu => by unfold ints at hu; obtain ⟨c, _, rfl⟩ := List.mem_map.1 hu; rfl
  have hlen : (ints W).length = m * 1 := by rw [ints_length, hl, Nat.mul_one]
  have r1 := hr.old kk1
  have hs1 : w1.heap.size = w.heap.size + 1 := by rw [← hw1]; simp
  have HX := Hid.of (And.intro o1 (And.intro r1 (And.intro h1c (And.intro hlen (And.intro hA (And.intro hm (And.intro hl hs1)))))))
  clear hA hl hr hm o1 r1 kk1 h1c hlen hs1
  go_enter Tryz.func80, Tryz.ntmps80
  go_wp2_with (at_builtin; refine wpList_appO slInts w1 rfl _ _ rfl _ 0 [] rfl HX.out.1 A m cap (ints W) rfl HX.out.2.2.2.2.1 HX.out.2.2.2.1 HX.out.2.1 HX.out.2.2.1 (by have := HX.out.2.2.2.2.2.1; unfold maxLen; omega) (by have := HX.out.2.2.2.2.2.1; omega) ?_; intro v2 w2 o2 k2 at2; obtain ⟨⟨A2, c2, rfl⟩, kf2⟩ := app_end hw1 o2 k2; have HK2 := Hid.of (And.intro kf2 (And.intro o2 at2)); clear o2 k2 at2 kf2 hw1)
  go_ret
  obtain ⟨kf2, o2, at2⟩ := HK2.out
  rw [Nat.zero_add] at o2
  have o2' : Own w2 3 1 (.slice A2 m c2) W.length (ints W) := by rw [HX.out.2.2.2.2.2.2.1]; exact o2
  have e3 : w2.heap.size + 1 = (w2.alloc (.cells #[.slice none 0 0] 75)).heap.size := by simp
  refine ⟨_, w2.heap.size, .slice A2 m c2, rfl, by rw [e3]; exact alloc_new _ _, alloc_old (alloc_new _ _) _, ⟨(o2'.alloc _).alloc _, fun g hg => ?_⟩, ?_, kf2.size, ?_, (kf2.alloc _).alloc _⟩
  · rcases at2 with e | e
    · rw [e] at hg
      have hg : some w.heap.size = some g := hg
      injection hg with hg; omega
    · rw [e] at hg
      injection hg with hg
      have := HX.out.2.2.2.2.2.2.2
      omega
  · have := kf2.size; simp; omega
  · simp
/-! made. -/
theorem le_arena {P N : Nat} (h : P ≤ 4096) (e : P * 512 = N) : N ≤ 2097152 := by omega
theorem mul_arena {P : Nat} (h : P ≤ 4096) : wrap64 ((P : Int) * 512) = ((P * 512 : Nat) : Int) ∧ IntKind.i64.wrap ((P : Int) * 512) = ((P * 512 : Nat) : Int) := by
  constructor
  · unfold wrap64; omega
  · rw [IntWalk.i64_in _ (by omega)]; omega
theorem two_index (a b : Value) (w : World) : (Instr.index 62 (.agg #[a, b]) (.int .i64 0)).run Tryz.prog w = .ok a w ∧ (Instr.index 62 (.agg #[a, b]) (.int .i64 1)).run Tryz.prog w = .ok b w := by
  have hu : Tryz.prog.underlying 62 = some (.array 2 24) := by kernel_rfl
  constructor <;> simp [Instr.index, run_underlying hu, asIntOf, go_sem]
theorem hj_keep {F : Nat → Prop} {w w' : World} {X : HX} {g : Int → Pg.Pla} {p : Ar.Pl} {v : Value} {cp : Co.Pla} {H : HS} {S : Ar.AS} {M : Co.CM} (h : HJ w X g p v cp H S M) (k : Keeps F w w') (hf : ∀ x, AF X g H.D p v cp M.C x → ¬ F x) (ht : ¬ F 0) : HJ w' X g p v cp H S M :=
  { h with h := h.h.keep k (fun x hx => hf x (.inl hx)), ar := h.ar.keep k (fun x hx => hf x (.inr (.inl hx))), co := h.co.keep k (fun x hx => hf x (.inr (.inr hx))), T := h.T.keep k ht }
abbrev g0 : Int → Pg.Pla := fun _ => ⟨0, 0, 0, 0, undef⟩
def nH (W : List Int) : HS := ⟨W, [], [], emptyF, fun _ => [], []⟩
def nS (P : Nat) : Ar.AS := ⟨List.replicate (P * 512) 0, []⟩
def nM (P C : Nat) : Co.CM := ⟨P, C, fun _ => List.replicate (P / C) true⟩
/-- Where made's things lie. -/
structure MX where
  pb : Nat
  p : Ar.Pl
  v : Value
  cp : Co.Pla
  x : Nat
  y : Nat
  yg : Nat
/-- What stands from the loop on; B: all of it lies from there on. -/
structure MB (w : World) (m : MX) (P C : Nat) (S : Ar.AS) (M : Co.CM) (wr : World) : Prop where
  ar : Ar.AtV wr m.p m.v S
  co : Co.At wr m.cp M
  T : Sh.Tab wr
  y : wr.heap[m.y]? = some (.cells #[.int .i64 P, .int .i64 C, .slice (some ⟨m.yg, 0, none⟩) P P] 176 (0, 0))
  fa : ∀ x, Ar.Fp m.p m.v x → w.heap.size ≤ x ∧ x ≠ m.pb
  fc : ∀ x, Co.Fp m.cp M.C x → w.heap.size ≤ x ∧ x ≠ m.pb
  ac : ∀ x, Ar.Fp m.p m.v x → ¬ Co.Fp m.cp M.C x
  ya : ∀ x, Ar.Fp m.p m.v x ∨ Co.Fp m.cp M.C x → x ≠ m.y
  yp : w.heap.size ≤ m.y ∧ m.y ≠ m.pb
  pb : w.heap.size ≤ m.pb
  bl : S.B.length = M.P * 512
  keeps : Keeps (fun _ => False) w wr
theorem MB.old {w : World} {m : MX} {P C : Nat} {S : Ar.AS} {M : Co.CM} {wr w' : World} (h : MB w m P C S M wr) (k : Keeps (fun _ => False) wr w') : MB w m P C S M w' :=
  { h with ar := h.ar.old k, co := h.co.keep k (fun _ _ x => x), T := h.T.old k, y := k.at h.y (fun x => x), keeps := h.keeps.trans k }
theorem MB.set {w : World} {m : MX} {P C : Nat} {S : Ar.AS} {M : Co.CM} {wr w' : World} (h : MB w m P C S M wr) (hT : Sh.Tab w) (k : Keeps (fun x => x = m.pb) wr w') : MB w m P C S M w' :=
  { h with ar := h.ar.keep k (fun x hx => (h.fa x hx).2), co := h.co.keep k (fun x hx => (h.fc x hx).2), T := h.T.keep k (fun e => by have := hT.lt; have := h.pb; omega), y := k.at h.y h.yp.2, keeps := h.keeps.trans' k (fun x hx hl => by have hx : x = m.pb := hx; have := h.pb; omega) }
def pairC (m : MX) (h0 h1 r0 r1 : Value) : Array Value := #[.pointer (some ⟨m.p.a, 0, none⟩), .pointer (some ⟨m.cp.m, 0, none⟩), h0, h1, .pointer (some ⟨m.x, 0, none⟩), .pointer (some ⟨m.y, 0, none⟩), r0, r1]
/-- A heap that is new, in its place. -/
structure MH (w : World) (m : MX) (S : Ar.AS) (M : Co.CM) (W : List Int) (X : HX) (wr : World) : Prop where
  j : HJ wr X g0 m.p m.v m.cp (nH W) S M
  f : ∀ x, Fp X g0 [] x → w.heap.size ≤ x ∧ x ≠ m.pb ∧ x ≠ m.y
theorem MH.old {w : World} {m : MX} {S : Ar.AS} {M : Co.CM} {W : List Int} {X : HX} {wr w' : World} (h : MH w m S M W X wr) (k : Keeps (fun _ => False) wr w') : MH w m S M W X w' := ⟨h.j.old k, h.f⟩
theorem MH.set {w : World} {m : MX} {P C : Nat} {S : Ar.AS} {M : Co.CM} {W : List Int} {X : HX} {wr w' : World} (h : MH w m S M W X wr) (b : MB w m P C S M wr) (hT : Sh.Tab w) (k : Keeps (fun x => x = m.pb) wr w') : MH w m S M W X w' :=
  ⟨hj_keep h.j k (fun x hx => by
    rcases hx with e | e | e
    · exact (h.f x e).2.1
    · exact (b.fa x e).2
    · exact (b.fc x e).2) (fun e => by have := hT.lt; have := b.pb; omega), h.f⟩
def M0 (w : World) (m : MX) (P C : Nat) (S : Ar.AS) (M : Co.CM) (wr : World) : Prop := MB w m P C S M wr ∧ wr.heap[m.pb]? = some (.cells (pairC m (.pointer none) (.pointer none) (.pointer none) (.pointer none)) 42 (0, 0))
def M1 (w : World) (m : MX) (P C : Nat) (S : Ar.AS) (M : Co.CM) (W0 : List Int) (X0 : HX) (r0 : Value) (wr : World) : Prop := MB w m P C S M wr ∧ MH w m S M W0 X0 wr ∧ wr.heap[m.pb]? = some (.cells (pairC m (.pointer (some ⟨X0.hb, 0, none⟩)) (.pointer none) r0 (.pointer none)) 42 (0, 0))
def M2 (w : World) (m : MX) (P C : Nat) (S : Ar.AS) (M : Co.CM) (W0 W1 : List Int) (X0 X1 : HX) (r0 r1 : Value) (wr : World) : Prop := MB w m P C S M wr ∧ MH w m S M W0 X0 wr ∧ MH w m S M W1 X1 wr ∧ (∀ x, Fp X0 g0 [] x → ¬ Fp X1 g0 [] x) ∧ wr.heap[m.pb]? = some (.cells (pairC m (.pointer (some ⟨X0.hb, 0, none⟩)) (.pointer (some ⟨X1.hb, 0, none⟩)) r0 r1) 42 (0, 0))
theorem M0_of {w w2 w3 w4 w5 w6 w7 w8 w9 wA : World} {pb P C : Nat} {p : Ar.Pl} {v : Value} {cp : Co.Pla} {xx y yg : Nat} (hT : Sh.Tab w) (hb : w.heap.size ≤ pb) (hp2 : pb < w2.heap.size) (K2 : Keeps (fun _ => False) w w2)
    (a3 : Co.At w3 cp (nM P C)) (f3 : ∀ x, Co.Fp cp C x → w2.heap.size ≤ x) (k3 : Keeps (fun _ => False) w2 w3) (k4 : Keeps (fun x => x = pb) w3 w4) (k5 : Keeps (fun _ => False) w4 w5) (k6 : Keeps (fun x => x = pb) w5 w6)
    (yc6 : w6.heap[y]? = some (.cells #[.int .i64 P, .int .i64 C, .slice (some ⟨yg, 0, none⟩) P P] 176 (0, 0))) (yl : w4.heap.size ≤ y)
    (a7 : Ar.AtV w7 p v (nS P)) (f7 : ∀ x, Ar.Fp p v x → w6.heap.size ≤ x) (k7 : Keeps (fun _ => False) w6 w7) (k8 : Keeps (fun x => x = pb) w7 w8) (k9 : Keeps (fun _ => False) w8 w9) (kA : Keeps (fun x => x = pb) w9 wA)
    (pA : wA.heap[pb]? = some (.cells #[.pointer (some ⟨p.a, 0, none⟩), .pointer (some ⟨cp.m, 0, none⟩), .pointer none, .pointer none, .pointer (some ⟨xx, 0, none⟩), .pointer (some ⟨y, 0, none⟩), .pointer none, .pointer none] 42 (0, 0))) :
    M0 w ⟨pb, p, v, cp, xx, y, yg⟩ P C (nS P) (nM P C) wA := by
  have kp : ∀ {a b : World}, Keeps (fun _ => False) a b → Keeps (fun x => x = pb) a b := fun k => k.mono (fun _ _ x => x.elim)
  have K7A := (k8.trans (kp k9)).trans kA
  have K6A := (kp k7).trans K7A
  have K3A := ((k4.trans (kp k5)).trans k6).trans K6A
  have K2A := (kp k3).trans K3A
  have s2 := K2.size
  have s3 := k3.size
  have s4 := k4.size
  have s5 := k5.size
  have s6 := k6.size
  have hy := lt_of yc6
  have hcl : ∀ x, Co.Fp cp C x → x < w3.heap.size := fun x hx => a3.lt hx
  have hTb := hT.lt
  refine ⟨{ ar := a7.keep K7A (fun x hx e => ?_), co := a3.keep K3A (fun x hx e => ?_), T := (hT.old K2).keep K2A (fun e => ?_), y := K6A.at yc6 ?_, fa := fun x hx => ?_, fc := fun x hx => ?_, ac := fun x hx hy => ?_, ya := fun x hx => ?_, yp := ?_, pb := hb, bl := ?_, keeps := K2.trans' K2A (fun x hx hl => ?_) }, pA⟩
  · have := f7 x hx; omega
  · have := f3 x hx; omega
  · omega
  · show y ≠ pb; omega
  · have := f7 x hx
    exact ⟨by omega, by show x ≠ pb; omega⟩
  · have := f3 x hx
    exact ⟨by omega, by show x ≠ pb; omega⟩
  · have := f7 x hx
    have := hcl x hy
    omega
  · show x ≠ y
    rcases hx with e | e
    · have := f7 x e; omega
    · have := hcl x e; omega
  · exact ⟨by show w.heap.size ≤ y; omega, by show y ≠ pb; omega⟩
  · show (List.replicate (P * 512) (0 : UInt8)).length = P * 512
    exact List.length_replicate ..
  · have hx : x = pb := hx
    omega
theorem app_rd {w w1 w2 : World} {v : Value} {m : Nat} {W : List Int} (hw : w.alloc (.cells #[] 3) = w1) (hl : W.length = m) (o : Own w2 3 1 v (0 + m) ([] ++ ints W)) (k : Keeps (fun b => (Value.slice (some ⟨w.heap.size, 0, none⟩) 0 0).ownBlock = some b) w1 w2) : ∃ A' cap', v = .slice A' m cap' ∧ (A' = none → m = 0 ∧ cap' = 0) ∧ Rd w2 A' (ints W) ∧ Keeps (fun _ => False) w w2 := by
  obtain ⟨-, kk⟩ := app_end hw o k
  rw [Nat.zero_add, List.nil_append] at o
  have o' : OutR 3 1 0 w2 v m (ints W) := ⟨o, fun _ _ => Nat.zero_le _⟩
  obtain ⟨A, cap, rfl, -, -, hr⟩ := o'.rd
  refine ⟨A, cap, rfl, fun e => ?_, hr, kk⟩
  subst e
  rcases o.2 with ⟨h2, _⟩ | ⟨g, cap', cur, hv, _⟩
  · injection h2 with _ e1 e2; exact ⟨e1, e2⟩
  · injection hv with e1; cases e1
def NwA (w : World) (m : MX) (P C : Nat) (S : Ar.AS) (M : Co.CM) (W : List Int) (wr : World) (e : Ending) (w' : World) : Prop := ∃ X : HX, e = .returned (.tuple #[.pointer (some ⟨X.hb, 0, none⟩), .int .i64 0]) ∧ MB w m P C S M w' ∧ MH w m S M W X w' ∧ (∀ x, Fp X g0 [] x → wr.heap.size ≤ x) ∧ Keeps (fun _ => False) wr w'
theorem new_at {w : World} {m : MX} {P C : Nat} {S : Ar.AS} {M : Co.CM} {wr : World} {A : Option Addr} {n cap : Nat} {W : List Int} {o : Obj} (b : MB w m P C S M wr) (hT : Sh.Tab w) (hc : wr.heap[m.pb]? = some o) (hA : A = none → n = 0 ∧ cap = 0) (hl : W.length = n) (hr : Rd wr A (ints W)) (hn : n ≤ 17592186044416) :
    Calls Tryz.prog 79 #[.pointer (some ⟨m.p.a, 0, none⟩), .pointer (some ⟨m.cp.m, 0, none⟩), .slice A n cap] wr (NwA w m P C S M W wr) := by
  have hTb := hT.lt
  refine (new_any wr g0 m.p m.v m.cp S M A n cap W hA hl hr hn b.ar b.co b.T b.ac (fun x hx => ?_) b.bl).mono ?_
  · rcases hx with e | e
    · have := (b.fa x e).1; omega
    · have := (b.fc x e).1; omega
  · rintro e w' ⟨X, rfl, j, f, k⟩
    have h1 := lt_of hc
    have h2 := lt_of b.y
    have h3 := b.keeps.size
    exact ⟨X, rfl, b.old k, ⟨j, fun x hx => by have := f x hx; exact ⟨by omega, by omega, by omega⟩⟩, f, k⟩
def MadeR (w : World) (P C : Nat) (W0 W1 : List Int) (e : Ending) (w' : World) : Prop := ∃ m X0 X1 r0 r1, e = .returned (.pointer (some ⟨m.pb, 0, none⟩)) ∧ M2 w m P C (nS P) (nM P C) W0 W1 X0 X1 r0 r1 w'
set_option maxRecDepth 100000 in
set_option maxHeartbeats 4000000 in
theorem made_any (w : World) (P C : Nat) (A0 A1 : Option Addr) (n0 c0 n1 c1 : Nat) (W0 W1 : List Int) (h : Cfg P C) (hT : Sh.Tab w) (hA0 : A0 = none → n0 = 0 ∧ c0 = 0) (hl0 : W0.length = n0) (hr0 : Rd w A0 (ints W0)) (hA1 : A1 = none → n1 = 0 ∧ c1 = 0) (hl1 : W1.length = n1) (hr1 : Rd w A1 (ints W1)) (hn0 : n0 ≤ 17592186044416) (hn1 : n1 ≤ 17592186044416) :
    Calls Tryz.prog 15 #[.agg #[.int .i64 P, .int .i64 C, .slice A0 n0 c0, .slice A1 n1 c1]] w (MadeR w P C W0 W1) := by
  obtain ⟨w1, hw1⟩ : ∃ w1, w.alloc (.cells #[.int .i64 P, .int .i64 C, .slice A0 n0 c0, .slice A1 n1 c1] 26) = w1 := ⟨_, rfl⟩
  have k1 : Keeps (fun _ => False) w w1 := by rw [← hw1]; exact (Keeps.refl _ _).alloc _
  have b1 : w1.heap[w.heap.size]? = some (.cells #[.int .i64 P, .int .i64 C, .slice A0 n0 c0, .slice A1 n1 c1] 26 (0, 0)) := by rw [← hw1]; exact alloc_new _ _
  obtain ⟨w2, hw2⟩ : ∃ w2, w1.alloc (.cells #[.pointer none, .pointer none, .pointer none, .pointer none, .pointer none, .pointer none, .pointer none, .pointer none] 42) = w2 := ⟨_, rfl⟩
  have k2 : Keeps (fun _ => False) w1 w2 := by rw [← hw2]; exact (Keeps.refl _ _).alloc _
  have p2 : w2.heap[w1.heap.size]? = some (.cells #[.pointer none, .pointer none, .pointer none, .pointer none, .pointer none, .pointer none, .pointer none, .pointer none] 42 (0, 0)) := by rw [← hw2]; exact alloc_new _ _
  have hcp : w1.heap.size = w.heap.size + 1 := by rw [← hw1]; simp
  obtain ⟨cb, hcb⟩ : ∃ cb, w.heap.size = cb := ⟨_, rfl⟩
  obtain ⟨pb, hpb⟩ : ∃ pb, w1.heap.size = pb := ⟨_, rfl⟩
  rw [hcb] at b1
  rw [hpb] at p2
  have b2 := k2.at b1 (fun x => x)
  have hne : cb ≠ pb := by omega
  have x0 := cell_of (v := .int .i64 P) b2 0 rfl
  have x1 := cell_of (v := .int .i64 C) b2 1 rfl
  have K2 := k1.trans k2
  have HA := Hid.of (And.intro (And.intro hA0 (And.intro hl0 (And.intro hr0 hn0))) (And.intro hA1 (And.intro hl1 (And.intro hr1 hn1))))
  have HC := Hid.of (And.intro h (And.intro hT (And.intro hcb (And.intro hpb hcp))))
  have hP4 : P ≤ 4096 := by unfold Cfg at h; omega
  have q1 := Co.new_any w2 P C h
  unfold Co.NewR at q1
  have HB2 := Hid.of (And.intro K2 (And.intro b2 p2))
  have y2f := free_of p2 1
  clear hA0 hl0 hr0 hn0 hA1 hl1 hr1 hn1 h hT k1 b1 k2 b2 p2 K2 hcp
  go_enter Tryz.func15, Tryz.ntmps15
  go_wp2_with fail
  refine q1.mono ?_
  rintro e w3 ⟨cp, rfl, a3, f3, k3⟩
  have b3 := k3.at HB2.out.2.1 (fun x => x)
  have p3 := k3.at HB2.out.2.2 (fun x => x)
  have y3 := free_of p3 1
  have y3' := cell_of (v := .pointer none) p3 1 rfl
  obtain ⟨w4, hw4⟩ : ∃ w4, w3.setCell ⟨pb, 1, none⟩ (.pointer (some ⟨cp.m, 0, none⟩)) = w4 := ⟨_, rfl⟩
  have p4 : w4.heap[pb]? = some (.cells #[.pointer none, .pointer (some ⟨cp.m, 0, none⟩), .pointer none, .pointer none, .pointer none, .pointer none, .pointer none, .pointer none] 42 (0, 0)) := by rw [← hw4]; exact set_of p3 1 _
  have k4 : Keeps (fun x => x = pb) w3 w4 := by rw [← hw4]; exact (Keeps.refl _ _).setCell _ _ (.inl rfl)
  have b4 := k4.at b3 hne
  have x0 := cell_of (v := .int .i64 P) b4 0 rfl
  have x1 := cell_of (v := .int .i64 C) b4 1 rfl
  have HQ := Hid.of (And.intro a3 (And.intro f3 (And.intro k3 (And.intro k4 (And.intro b4 p4)))))
  have q2 := new7_any w4 P C HC.out.1
  unfold New7 at q2
  clear q1 a3 f3 k3 b3 p3 k4 b4 p4 hw1 hw2 y2f
  go_wp2_with fail
  refine q2.mono ?_
  rintro e w5 ⟨y, yg, rfl, yc5, yg5, yl5, gl5, yn5, k5⟩
  clear q2 hw4 y3 y3'
  have p5 := k5.at HQ.out.2.2.2.2.2 (fun x => x)
  have b5 := k5.at HQ.out.2.2.2.2.1 (fun x => x)
  have y5 := free_of p5 5
  have y5' := cell_of (v := .pointer none) p5 5 rfl
  obtain ⟨w6, hw6⟩ : ∃ w6, w5.setCell ⟨pb, 5, none⟩ (.pointer (some ⟨y, 0, none⟩)) = w6 := ⟨_, rfl⟩
  have p6 : w6.heap[pb]? = some (.cells #[.pointer none, .pointer (some ⟨cp.m, 0, none⟩), .pointer none, .pointer none, .pointer none, .pointer (some ⟨y, 0, none⟩), .pointer none, .pointer none] 42 (0, 0)) := by rw [← hw6]; exact set_of p5 5 _
  have k6 : Keeps (fun x => x = pb) w5 w6 := by rw [← hw6]; exact (Keeps.refl _ _).setCell _ _ (.inl rfl)
  have hpb4 := lt_of HQ.out.2.2.2.2.2
  have yc6 := k6.at yc5 (by omega)
  have b6 := k6.at b5 hne
  have x0 := cell_of (v := .int .i64 P) b6 0 rfl
  obtain ⟨eP, eP'⟩ := mul_arena hP4
  obtain ⟨N, hN⟩ : ∃ N, P * 512 = N := ⟨_, rfl⟩
  rw [hN] at eP eP'
  have hN2 := le_arena hP4 hN
  have q3 := Ar.new_any w6 N hN2
  unfold Ar.NewR at q3
  have HQ2 := Hid.of (And.intro (k5.trans (Keeps.refl _ _)) (And.intro k6 (And.intro yc6 (And.intro b6 (And.intro p6 (And.intro yl5 hpb4))))))
  clear yc5 yg5 gl5 yn5 k5 p5 b5 k6 yc6 b6 p6 yl5 hpb4
  go_wp2_with fail
  refine q3.mono ?_
  rintro e w7 ⟨p, v, rfl, a7, f7, k7⟩
  clear q3 hw6 y5 y5' x0 x1
  have p7 := k7.at HQ2.out.2.2.2.2.1 (fun x => x)
  have b7 := k7.at HQ2.out.2.2.2.1 (fun x => x)
  have y7 := free_of p7 0
  have y7' := cell_of (v := .pointer none) p7 0 rfl
  obtain ⟨w8, hw8⟩ : ∃ w8, w7.setCell ⟨pb, 0, none⟩ (.pointer (some ⟨p.a, 0, none⟩)) = w8 := ⟨_, rfl⟩
  have p8 : w8.heap[pb]? = some (.cells #[.pointer (some ⟨p.a, 0, none⟩), .pointer (some ⟨cp.m, 0, none⟩), .pointer none, .pointer none, .pointer none, .pointer (some ⟨y, 0, none⟩), .pointer none, .pointer none] 42 (0, 0)) := by rw [← hw8]; exact set_of p7 0 _
  have k8 : Keeps (fun x => x = pb) w7 w8 := by rw [← hw8]; exact (Keeps.refl _ _).setCell _ _ (.inl rfl)
  have b8 := k8.at b7 hne
  have x0 := cell_of (v := .int .i64 P) b8 0 rfl
  have q4 := new1_any w8 N hN2
  unfold New1 at q4
  have HQ3 := Hid.of (And.intro a7 (And.intro f7 (And.intro k7 (And.intro k8 (And.intro b8 p8)))))
  clear a7 f7 k7 p7 b7 k8 b8 p8
  go_wp2_with fail
  refine q4.mono ?_
  rintro e w9 ⟨xx, xg, rfl, xc9, xg9, xl9, gl9, xn9, k9⟩
  clear q4 hw8 y7 y7' x0
  have p9 := k9.at HQ3.out.2.2.2.2.2 (fun x => x)
  have b9 := k9.at HQ3.out.2.2.2.2.1 (fun x => x)
  have y9 := free_of p9 4
  have y9' := cell_of (v := .pointer none) p9 4 rfl
  obtain ⟨wA, hwA⟩ : ∃ wA, w9.setCell ⟨pb, 4, none⟩ (.pointer (some ⟨xx, 0, none⟩)) = wA := ⟨_, rfl⟩
  have pA : wA.heap[pb]? = some (.cells #[.pointer (some ⟨p.a, 0, none⟩), .pointer (some ⟨cp.m, 0, none⟩), .pointer none, .pointer none, .pointer (some ⟨xx, 0, none⟩), .pointer (some ⟨y, 0, none⟩), .pointer none, .pointer none] 42 (0, 0)) := by rw [← hwA]; exact set_of p9 4 _
  have kA : Keeps (fun x => x = pb) w9 wA := by rw [← hwA]; exact (Keeps.refl _ _).setCell _ _ (.inl rfl)
  have bA := kA.at b9 hne
  have xA2 := cell_of (v := .slice A0 n0 c0) bA 2 rfl
  have xA3 := cell_of (v := .slice A1 n1 c1) bA 3 rfl
  go_wp2_with fail
  have HM0 : Hid (M0 w ⟨pb, p, v, cp, xx, y, yg⟩ P C (nS P) (nM P C) wA) := by
    obtain ⟨a3, f3, k3, k4, b4, p4⟩ := HQ.out
    obtain ⟨k5, k6, yc6, b6, p6, yl5, hpb4⟩ := HQ2.out
    obtain ⟨a7, f7, k7, k8, b8, p8⟩ := HQ3.out
    have h1 := HC.out.2.2.1
    have h2 := HC.out.2.2.2.1
    have h3 := HC.out.2.2.2.2
    subst hN
    exact Hid.of (M0_of HC.out.2.1 (by omega) (lt_of HB2.out.2.2) HB2.out.1 a3 f3 k3 k4 k5 k6 yc6 yl5 a7 f7 k7 k8 k9 kA pA)
  have HCB := Hid.of (show wA.heap[cb]? = some (.cells #[.int .i64 P, .int .i64 C, .slice A0 n0 c0, .slice A1 n1 c1] 26 (0, 0)) from bA)
  clear HQ HQ2 HQ3 k9 kA pA bA p9 b9 xc9 xg9 xl9 gl9 xn9 hwA y9 y9' xA2 xA3 eP eP' hN hN2 hne hP4 hcb hpb
  go_loopw [56] (fun i wr => (i = .int .i64 0 ∧ Hid (M0 w ⟨pb, p, v, cp, xx, y, yg⟩ P C (nS P) (nM P C) wr ∧ Keeps (fun x => x = pb) wA wr)) ∨ (i = .int .i64 1 ∧ ∃ X0 r0, Hid (M1 w ⟨pb, p, v, cp, xx, y, yg⟩ P C (nS P) (nM P C) W0 X0 (.pointer (some ⟨r0, 0, none⟩)) wr)) ∨ (i = .int .i64 2 ∧ ∃ X0 X1 r0 r1, Hid (M2 w ⟨pb, p, v, cp, xx, y, yg⟩ P C (nS P) (nM P C) W0 W1 X0 X1 r0 r1 wr))) (fun i _ => 2 - (intOf i).toNat)
  case atStart => exact .inl ⟨rfl, Hid.of ⟨HM0.out, Keeps.refl _ _⟩⟩
  case round =>
    clear HM0
    rcases hrel with ⟨rfl, HI⟩ | ⟨rfl, X0, r0, HI⟩ | ⟨rfl, X0, X1, r0, r1, HI⟩
    · have hc := HI.out.1.2
      unfold pairC at hc
      dsimp only at hc
      have K0 := (HI.out.1.1).keeps
      have s0a := cell_of (v := .pointer (some ⟨p.a, 0, none⟩)) hc 0 rfl; have s0b := cell_of (v := .pointer (some ⟨cp.m, 0, none⟩)) hc 1 rfl
      obtain ⟨v1, hv1⟩ : ∃ v1, wr.drew.alloc (.cells #[] 3) = v1 := ⟨_, rfl⟩
      have j1 : Keeps (fun _ => False) wr v1 := by rw [← hv1]; exact ((Keeps.refl _ _).drew).alloc _
      have o1 : Own v1 3 1 (.slice (some ⟨wr.heap.size, 0, none⟩) 0 0) 0 [] := by rw [← hv1]; exact own_empty wr.drew _ _
      have h1c : ∀ u ∈ ints W0, u.oneCell' = true := fun u hu => by unfold ints at hu; obtain ⟨c, _, rfl⟩ := List.mem_map.1 hu; rfl
      have hlen : (ints W0).length = n0 * 1 := by rw [ints_length, HA.out.1.2.1, Nat.mul_one]
      have r1 := (HA.out.1.2.2.1.old K0).old j1
      have hc1 := j1.at hc (fun x => x)
      have s1a := cell_of (v := .pointer (some ⟨p.a, 0, none⟩)) hc1 0 rfl; have s1b := cell_of (v := .pointer (some ⟨cp.m, 0, none⟩)) hc1 1 rfl
      have HX := Hid.of (And.intro o1 (And.intro r1 (And.intro h1c (And.intro hlen (And.intro j1 hc)))))
      have HV := Hid.of hv1
      have ti := (two_index (.slice A0 n0 c0) (.slice A1 n1 c1) wr).1
      clear hc K0 j1 o1 h1c hlen r1 hc1
      go_wp2_with fail
      go_region_law (first
        | (refine step_appL slInts v1 rfl _ _ rfl (.slice (some ⟨wr.heap.size, 0, none⟩) 0 0) 0 [] rfl HX.out.1 A0 n0 c0 (ints W0) rfl HA.out.1.1 HX.out.2.2.2.1 HX.out.2.1 HX.out.2.2.1 (by have := HA.out.1.2.2.2; unfold maxLen; omega) (by have := HA.out.1.2.2.2; omega) ?_; intro u2 w2' o2 k2 at2; obtain ⟨A2, cc2, rfl, hA2, hr2, kf2⟩ := app_rd HV.out HA.out.1.2.1 o2 k2; have kf2 : Keeps (fun _ => False) wr w2' := kf2.of_drew; have hc2 := kf2.at HX.out.2.2.2.2.2 (fun x => x); have s2a := cell_of (v := .pointer (some ⟨p.a, 0, none⟩)) hc2 0 rfl; have s2b := cell_of (v := .pointer (some ⟨cp.m, 0, none⟩)) hc2 1 rfl; have b2 := (HI.out.1.1).old kf2; have q5 := new_at b2 HC.out.2.1 hc2 hA2 HA.out.1.2.1 hr2 HA.out.1.2.2.2; unfold NwA at q5; have HK2 := Hid.of (And.intro kf2 hc2); clear o2 k2 at2 hA2 hr2 kf2 hc2 b2)
        | (go_simp; go_at_call 79; refine q5.mono ?_; clear q5; rintro e w5 ⟨X, rfl, b5, h5, l5, k5⟩; have hc5 := k5.at HK2.out.2 (fun x => x); have s5c := cell_of (v := .pointer none) hc5 2 rfl; have s5d := free_of hc5 2; obtain ⟨w6, hw6⟩ : ∃ w6, w5.setCell ⟨pb, 2, none⟩ (.pointer (some ⟨X.hb, 0, none⟩)) = w6 := ⟨_, rfl⟩; have hc6 : w6.heap[pb]? = some (.cells #[.pointer (some ⟨p.a, 0, none⟩), .pointer (some ⟨cp.m, 0, none⟩), .pointer (some ⟨X.hb, 0, none⟩), .pointer none, .pointer (some ⟨xx, 0, none⟩), .pointer (some ⟨y, 0, none⟩), .pointer none, .pointer none] 42 (0, 0)) := (by rw [← hw6]; exact set_of hc5 2 _); have k6 : Keeps (fun x => x = pb) w5 w6 := (by rw [← hw6]; exact (Keeps.refl _ _).setCell _ _ (.inl rfl)); have HF := Hid.of (And.intro (b5.set HC.out.2.1 k6) (And.intro (h5.set b5 HC.out.2.1 k6) (And.intro hc6 (And.intro l5 (And.intro (HK2.out.1.trans k5) k6))))); clear b5 h5 l5 k5 hc5 hc6 k6))
      all_goals
        clear s0a s0b s1a s1b s2a s2b s5c s5d hw6 ti hv1
        have hc6 := HF.out.2.2.1
        have s6a := cell_of (v := .pointer (some ⟨xx, 0, none⟩)) hc6 4 rfl; have s6b := cell_of (v := .pointer (some ⟨y, 0, none⟩)) hc6 5 rfl
        have s6c := cell_of (v := .pointer none) hc6 6 rfl; have s6d := free_of hc6 6
        have HR6 := Hid.of (HA.out.1.2.2.1.old HF.out.1.keeps)
        have q7 := new17_any w6.drew xx y A0 n0 c0 W0 HA.out.1.1 HA.out.1.2.1 (HR6.out.old ((Keeps.refl _ _).drew)) HA.out.1.2.2.2
        unfold New17 at q7
        clear hc6
        go_wp2_with fail
        go_region_law (first
          | (go_simp; go_at_call 80; refine q7.mono ?_; clear q7; rintro e w7 ⟨r, tb, uu, rfl, rc7, tc7, o7, rl7, tl7, rn7, k7⟩; have k7 : Keeps (fun _ => False) w6 w7 := k7.of_drew; have hc7 := k7.at HF.out.2.2.1 (fun x => x); have s7c := cell_of (v := .pointer none) hc7 6 rfl; have s7d := free_of hc7 6; obtain ⟨w8, hw8⟩ : ∃ w8, w7.setCell ⟨pb, 6, none⟩ (.pointer (some ⟨r, 0, none⟩)) = w8 := ⟨_, rfl⟩; have hc8 : w8.heap[pb]? = some (.cells #[.pointer (some ⟨p.a, 0, none⟩), .pointer (some ⟨cp.m, 0, none⟩), .pointer (some ⟨X.hb, 0, none⟩), .pointer none, .pointer (some ⟨xx, 0, none⟩), .pointer (some ⟨y, 0, none⟩), .pointer (some ⟨r, 0, none⟩), .pointer none] 42 (0, 0)) := (by rw [← hw8]; exact set_of hc7 6 _); have k8 : Keeps (fun x => x = pb) w7 w8 := (by rw [← hw8]; exact (Keeps.refl _ _).setCell _ _ (.inl rfl)); have K8 := Hid.of (And.intro k7 (And.intro k8 hc8)); clear rc7 tc7 o7 rl7 tl7 rn7 k7 hc7 hc8 k8))
        all_goals
          clear s6a s6b s6c s6d s7c s7d hw8
          go_wp2
          go_roundw
          case rel => exact .inr (.inl ⟨by go_num, X, r, Hid.of ⟨(HF.out.1.old K8.out.1).set HC.out.2.1 K8.out.2.1, (HF.out.2.1.old K8.out.1).set (HF.out.1.old K8.out.1) HC.out.2.1 K8.out.2.1, K8.out.2.2⟩⟩)
          case measure => simp [intOf]
    · have hc := HI.out.2.2
      unfold pairC at hc
      dsimp only at hc
      have K0 := (HI.out.1).keeps
      have s0a := cell_of (v := .pointer (some ⟨p.a, 0, none⟩)) hc 0 rfl; have s0b := cell_of (v := .pointer (some ⟨cp.m, 0, none⟩)) hc 1 rfl
      obtain ⟨v1, hv1⟩ : ∃ v1, wr.drew.alloc (.cells #[] 3) = v1 := ⟨_, rfl⟩
      have j1 : Keeps (fun _ => False) wr v1 := by rw [← hv1]; exact ((Keeps.refl _ _).drew).alloc _
      have o1 : Own v1 3 1 (.slice (some ⟨wr.heap.size, 0, none⟩) 0 0) 0 [] := by rw [← hv1]; exact own_empty wr.drew _ _
      have h1c : ∀ u ∈ ints W1, u.oneCell' = true := fun u hu => by unfold ints at hu; obtain ⟨c, _, rfl⟩ := List.mem_map.1 hu; rfl
      have hlen : (ints W1).length = n1 * 1 := by rw [ints_length, HA.out.2.2.1, Nat.mul_one]
      have r1 := (HA.out.2.2.2.1.old K0).old j1
      have hc1 := j1.at hc (fun x => x)
      have s1a := cell_of (v := .pointer (some ⟨p.a, 0, none⟩)) hc1 0 rfl; have s1b := cell_of (v := .pointer (some ⟨cp.m, 0, none⟩)) hc1 1 rfl
      have HX := Hid.of (And.intro o1 (And.intro r1 (And.intro h1c (And.intro hlen (And.intro j1 hc)))))
      have HV := Hid.of hv1
      have ti := (two_index (.slice A0 n0 c0) (.slice A1 n1 c1) wr).2
      clear hc K0 j1 o1 h1c hlen r1 hc1
      go_wp2_with fail
      go_region_law (first
        | (refine step_appL slInts v1 rfl _ _ rfl (.slice (some ⟨wr.heap.size, 0, none⟩) 0 0) 0 [] rfl HX.out.1 A1 n1 c1 (ints W1) rfl HA.out.2.1 HX.out.2.2.2.1 HX.out.2.1 HX.out.2.2.1 (by have := HA.out.2.2.2.2; unfold maxLen; omega) (by have := HA.out.2.2.2.2; omega) ?_; intro u2 w2' o2 k2 at2; obtain ⟨A2, cc2, rfl, hA2, hr2, kf2⟩ := app_rd HV.out HA.out.2.2.1 o2 k2; have kf2 : Keeps (fun _ => False) wr w2' := kf2.of_drew; have hc2 := kf2.at HX.out.2.2.2.2.2 (fun x => x); have s2a := cell_of (v := .pointer (some ⟨p.a, 0, none⟩)) hc2 0 rfl; have s2b := cell_of (v := .pointer (some ⟨cp.m, 0, none⟩)) hc2 1 rfl; have b2 := (HI.out.1).old kf2; have q5 := new_at b2 HC.out.2.1 hc2 hA2 HA.out.2.2.1 hr2 HA.out.2.2.2.2; unfold NwA at q5; have HK2 := Hid.of (And.intro kf2 hc2); clear o2 k2 at2 hA2 hr2 kf2 hc2 b2)
        | (go_simp; go_at_call 79; refine q5.mono ?_; clear q5; rintro e w5 ⟨X, rfl, b5, h5, l5, k5⟩; have hc5 := k5.at HK2.out.2 (fun x => x); have s5c := cell_of (v := .pointer none) hc5 3 rfl; have s5d := free_of hc5 3; obtain ⟨w6, hw6⟩ : ∃ w6, w5.setCell ⟨pb, 3, none⟩ (.pointer (some ⟨X.hb, 0, none⟩)) = w6 := ⟨_, rfl⟩; have hc6 : w6.heap[pb]? = some (.cells #[.pointer (some ⟨p.a, 0, none⟩), .pointer (some ⟨cp.m, 0, none⟩), .pointer (some ⟨X0.hb, 0, none⟩), .pointer (some ⟨X.hb, 0, none⟩), .pointer (some ⟨xx, 0, none⟩), .pointer (some ⟨y, 0, none⟩), .pointer (some ⟨r0, 0, none⟩), .pointer none] 42 (0, 0)) := (by rw [← hw6]; exact set_of hc5 3 _); have k6 : Keeps (fun x => x = pb) w5 w6 := (by rw [← hw6]; exact (Keeps.refl _ _).setCell _ _ (.inl rfl)); have HG := Hid.of (And.intro (HI.out.2.1.old (HK2.out.1.trans k5)) (And.intro b5 (show ∀ x, Fp X0 g0 [] x → ¬ Fp X g0 [] x from fun x hx hy => (by have e1 := l5 x hy; have e2 := HI.out.2.1.j.h.lt hx; have e3 := HK2.out.1.size; omega)))); have HF := Hid.of (And.intro (b5.set HC.out.2.1 k6) (And.intro (h5.set b5 HC.out.2.1 k6) (And.intro hc6 (And.intro l5 (And.intro (HK2.out.1.trans k5) k6))))); clear b5 h5 l5 k5 hc5 hc6 k6))
      all_goals
        clear s0a s0b s1a s1b s2a s2b s5c s5d hw6 ti hv1
        have hc6 := HF.out.2.2.1
        have s6a := cell_of (v := .pointer (some ⟨xx, 0, none⟩)) hc6 4 rfl; have s6b := cell_of (v := .pointer (some ⟨y, 0, none⟩)) hc6 5 rfl
        have s6c := cell_of (v := .pointer none) hc6 7 rfl; have s6d := free_of hc6 7
        have HR6 := Hid.of (HA.out.2.2.2.1.old HF.out.1.keeps)
        have q7 := new17_any w6.drew xx y A1 n1 c1 W1 HA.out.2.1 HA.out.2.2.1 (HR6.out.old ((Keeps.refl _ _).drew)) HA.out.2.2.2.2
        unfold New17 at q7
        clear hc6
        go_wp2_with fail
        go_region_law (first
          | (go_simp; go_at_call 80; refine q7.mono ?_; clear q7; rintro e w7 ⟨r, tb, uu, rfl, rc7, tc7, o7, rl7, tl7, rn7, k7⟩; have k7 : Keeps (fun _ => False) w6 w7 := k7.of_drew; have hc7 := k7.at HF.out.2.2.1 (fun x => x); have s7c := cell_of (v := .pointer none) hc7 7 rfl; have s7d := free_of hc7 7; obtain ⟨w8, hw8⟩ : ∃ w8, w7.setCell ⟨pb, 7, none⟩ (.pointer (some ⟨r, 0, none⟩)) = w8 := ⟨_, rfl⟩; have hc8 : w8.heap[pb]? = some (.cells #[.pointer (some ⟨p.a, 0, none⟩), .pointer (some ⟨cp.m, 0, none⟩), .pointer (some ⟨X0.hb, 0, none⟩), .pointer (some ⟨X.hb, 0, none⟩), .pointer (some ⟨xx, 0, none⟩), .pointer (some ⟨y, 0, none⟩), .pointer (some ⟨r0, 0, none⟩), .pointer (some ⟨r, 0, none⟩)] 42 (0, 0)) := (by rw [← hw8]; exact set_of hc7 7 _); have k8 : Keeps (fun x => x = pb) w7 w8 := (by rw [← hw8]; exact (Keeps.refl _ _).setCell _ _ (.inl rfl)); have K8 := Hid.of (And.intro k7 (And.intro k8 hc8)); clear rc7 tc7 o7 rl7 tl7 rn7 k7 hc7 hc8 k8))
        all_goals
          clear s6a s6b s6c s6d s7c s7d hw8
          go_wp2
          go_roundw
          case rel => exact .inr (.inr ⟨by go_num, X0, X, .pointer (some ⟨r0, 0, none⟩), .pointer (some ⟨r, 0, none⟩), Hid.of ⟨(HF.out.1.old K8.out.1).set HC.out.2.1 K8.out.2.1, ((HG.out.1.set HG.out.2.1 HC.out.2.1 HF.out.2.2.2.2.2).old K8.out.1).set (HF.out.1.old K8.out.1) HC.out.2.1 K8.out.2.1, (HF.out.2.1.old K8.out.1).set (HF.out.1.old K8.out.1) HC.out.2.1 K8.out.2.1, HG.out.2.2, K8.out.2.2⟩⟩)
          case measure => simp [intOf]
    · have HF := HI
      go_wp2_with fail
      go_ret
      exact ⟨_, _, _, _, _, rfl, HF.out⟩
end Hm
end Go.Proofs.YtnheibcjcgacpaaGreatDoor

/- The document's script (garthref22): One. -/
import Derived.Test.YtmlolkjgniodpaaScrE
import Derived.Deep.DeepCutAuto
set_option linter.unusedVariables false
set_option linter.unusedSimpArgs false
namespace Go.Proofs.Ytmlolkjgniodpaa
open Go.RowKit Go.ChangeMaps
attribute [-go_sem] run_index_string
namespace Scr
theorem row_len (k : Int) : (row k).length ≤ 3 := by
  unfold row
  repeat' split
  all_goals simp
theorem row_h (k : Int) (j : Nat) (h : (row k)[j]? = some .h) : ¬ Part.h ∈ (row k).drop (j + 1) := by
  have hr : row k ∈ [[Part.n, .m], [.n], [.h], [.h, .n], [.h, .n, .m], [.h, .n, .d], []] := by
    unfold row
    repeat' split
    all_goals simp
  generalize row k = R at *
  simp only [List.mem_cons, List.not_mem_nil, or_false] at hr
  rcases hr with rfl | rfl | rfl | rfl | rfl | rfl | rfl
  all_goals rcases j with _ | _ | _ | j <;> simp at h ⊢
def oneV (l : Bs) : Stp × Bs × Bool := match one l with
  | some (x, r) => (x, r, true)
  | none => (zero, [], false)
set_option maxRecDepth 100000 in
set_option maxHeartbeats 1000000 in
theorem one_short (w : World) (l : Bs) (h : l.length < 2) :
    Calls Try.prog 64 #[.string (bs l)] w fun e w' => e = .returned (.tuple #[(oneV l).1.val, .string (bs (oneV l).2.1), .bool (oneV l).2.2]) ∧ Keeps (fun _ => False) w w' := by
  have e : oneV l = (zero, [], false) := by unfold oneV one; rw [if_pos h]
  rw [e]
  clear e
  obtain ⟨w1, hw1⟩ : ∃ w1, w.alloc (.cells #[.int .i64 0, .int .i64 0, .int .i64 0, .int .i64 0, .int .u64 0, .string ⟨#[]⟩, .int .i64 0] 108) = w1 := ⟨_, rfl⟩
  have x1 : XAt w1 w.heap.size zero := by rw [← hw1]; exact alloc_new _ _
  have K1 : Keeps (fun _ => False) w w1 := by rw [← hw1]; exact (Keeps.refl _ _).alloc _
  go_enter Try.func64, Try.ntmps64
  obtain ⟨rb, hre⟩ : ∃ rb, w.heap.size = rb := ⟨_, rfl⟩
  rw [hre] at x1
  have HRB := Hid.of hre
  simp only [zero] at x1
  obtain ⟨g0, g1, g2, g3, g4, g5, g6⟩ := x1.free
  obtain ⟨h0, h1, h2, h3, h4, h5, h6⟩ := x1.all
  have xz := x1.store zero
  have kz := ksets w1 rb zero
  obtain ⟨wz, hwz⟩ : ∃ wz, (((((((w1.setCell ⟨rb, 0, none⟩ (.int .i64 0)).setCell ⟨rb, 1, none⟩ (.int .i64 0)).setCell ⟨rb, 2, none⟩ (.int .i64 0)).setCell ⟨rb, 3, none⟩ (.int .i64 0)).setCell ⟨rb, 4, none⟩ (.int .u64 0)).setCell ⟨rb, 5, none⟩ (.string ⟨#[]⟩)).setCell ⟨rb, 6, none⟩ (.int .i64 0)) = wz := ⟨_, rfl⟩
  have hwz' : stored w1 rb zero = wz := hwz
  rw [hwz'] at xz kz
  have Kz : Keeps (fun _ => False) w wz := K1.trans' kz (fun x e hl => by have := HRB.out; omega)
  obtain ⟨y0, y1, y2, y3, y4, y5, y6⟩ := xz.all
  have HF := Hid.of Kz
  have HY := Hid.of (And.intro y0 (And.intro y1 (And.intro y2 (And.intro y3 (And.intro y4 (And.intro y5 y6))))))
  clear xz kz Kz hwz' y0 y1 y2 y3 y4 y5 y6 K1 x1
  go_wp2
  obtain ⟨y0, y1, y2, y3, y4, y5, y6⟩ := HY.out
  refine bodyPost_ret (v := .tuple #[Stp.val zero, .string (bs []), .bool false]) ?_ ?_ ?_
  · simp [results, Try.results64, go_sem, y0, y1, y2, y3, y4, y5, y6, Stp.val]
    rfl
  · rfl
  · exact ⟨rfl, HF.out⟩
set_option maxRecDepth 100000 in
set_option maxHeartbeats 1000000 in
theorem one_long (w : World) (l : Bs) (h : 2 ≤ l.length) (hl : l.length ≤ 1000000) :
    Calls Try.prog 64 #[.string (bs l)] w fun e w' => e = .returned (.tuple #[(oneV l).1.val, .string (bs (oneV l).2.1), .bool (oneV l).2.2]) ∧ Keeps (fun _ => False) w w' := by
  obtain ⟨w1, hw1⟩ : ∃ w1, w.alloc (.cells #[.int .i64 0, .int .i64 0, .int .i64 0, .int .i64 0, .int .u64 0, .string ⟨#[]⟩, .int .i64 0] 108) = w1 := ⟨_, rfl⟩
  have x1 : XAt w1 w.heap.size zero := by rw [← hw1]; exact alloc_new _ _
  have K1 : Keeps (fun _ => False) w w1 := by rw [← hw1]; exact (Keeps.refl _ _).alloc _
  obtain ⟨hb0, hb1⟩ := byteAt_bd l 0
  obtain ⟨hb2, hb3⟩ := byteAt_bd l 1
  have hl0 : 0 < l.length := by omega
  have hl1 : 1 < l.length := by omega
  have hl1i : (1 : Int) < (l.length : Int) := by omega
  have hwr : ∀ x : Int, 0 ≤ x → x ≤ 255 → IntKind.i64.wrap x = x := fun x h1 h2 => by rw [IntKind.wrap_i64]; omega
  have hw0 := hwr _ hb0 hb1
  have hw1' := hwr _ hb2 hb3
  have htm : (byteAt l 0).tmod 16 = byteAt l 0 % 16 := Int.tmod_eq_emod_of_nonneg hb0
  have hw2 := hwr (byteAt l 0 % 16) (by omega) (by omega)
  have hk0 : 0 ≤ byteAt l 0 % 16 := by omega
  have hk1 : byteAt l 0 % 16 ≤ 15 := by omega
  clear hwr
  go_enter Try.func64, Try.ntmps64
  have hrl := lt_of x1
  go_upto_region 3 with fail
  go_cut [5] (fun s5 wx => s5 = .pointer (some ⟨w1.heap.size, 0, none⟩) ∧ XAt wx w1.heap.size ⟨byteAt l 0 % 16, byteAt l 1, 0, 0, 0, [], 0⟩ ∧ XAt wx w.heap.size zero ∧ Keeps (fun _ => False) w wx)
  case first =>
    go_region_law (fail)
    all_goals
      go_wp2_with fail
      go_meet
      exact ⟨rfl, alloc_new _ _, alloc_old x1 _, (K1.alloc _).drew⟩
  case rest =>
    obtain ⟨rfl, x2, xr, K2⟩ := hcut
    obtain ⟨rb, hre⟩ : ∃ rb, w.heap.size = rb := ⟨_, rfl⟩
    obtain ⟨xb, hxe⟩ : ∃ xb, w1.heap.size = xb := ⟨_, rfl⟩
    have hwb : w.heap.size ≤ w1.heap.size := K1.size
    rw [hre] at xr hrl hwb
    rw [hxe] at x2 hrl hwb
    rw [hre, hxe]
    have HRB : Hid (w.heap.size ≤ rb ∧ w.heap.size ≤ xb) := Hid.of (by omega)
    have hrx : ¬ rb = xb := by omega
    have z0 := cell_of (v := .int .i64 (byteAt l 0 % 16)) x2 0 rfl
    have HO : Hid (one l = parts (row (byteAt l 0 % 16)) ⟨byteAt l 0 % 16, byteAt l 1, 0, 0, 0, [], 0⟩ (l.drop 2)) := by
      refine Hid.of ?_
      unfold one
      rw [if_neg (by omega)]
      rfl
    have q := fun w => row_any w (byteAt l 0 % 16) hk0 (by omega)
    generalize byteAt l 0 % 16 = kk at *
    generalize byteAt l 1 = tt at *
    obtain ⟨R, hRe⟩ : ∃ R, row kk = R := ⟨_, rfl⟩
    rw [hRe] at q HO
    have hRL : (R.map pc).length = R.length := by simp
    have hRC : ∀ j p, R[j]? = some p → byteAt (R.map pc) j = pci p := by
      intro j p hj
      unfold byteAt
      simp only [List.getD_eq_getElem?_getD, List.getElem?_map, hj]
      cases p <;> rfl
    have hRb : R.length ≤ 1000 := by rw [← hRe]; have := row_len kk; omega
    have HRC := Hid.of hRC
    have HRH : Hid (∀ j, R[j]? = some Part.h → ¬ Part.h ∈ R.drop (j + 1)) := Hid.of (by rw [← hRe]; exact row_h kk)
    generalize R.map pc = RB at *
    clear hRC hRe hre hxe hwb x1 K1 hw1 hw0 hw1' hw2 htm hb0 hb1 hb2 hb3
    go_wp2_with fail
    refine (q _).mono ?_
    rintro e w3 ⟨rfl, rfl⟩
    clear q
    go_wp2
    go_loopw [0, 7] (fun s i wr => ∃ (j : Nat) (m : Bs) (x : Stp), j ≤ R.length ∧ s = .string (bs m) ∧ i = .int .i64 j ∧ XAt wr xb x ∧ XAt wr rb zero ∧ Hid (one l = parts (R.drop j) x m) ∧ Hid (Part.h ∈ R.drop j → x.handle = 0) ∧ m.length ≤ 1000000 ∧ Keeps (fun _ => False) w wr) (fun _ i _ => R.length - (intOf i).toNat)
    case atStart => exact ⟨0, _, _, Nat.zero_le _, rfl, rfl, x2, xr, HO, Hid.of (fun _ => rfl), by rw [List.length_drop]; omega, K2⟩
    case round =>
      clear x2 xr HO K2 z0 hl h hl0 hl1 hl1i
      obtain ⟨j, m, x, hj, rfl, rfl, x2, xr, HO, HH, hml, K⟩ := hrel
      by_cases hlt : j < R.length
      · obtain ⟨p, hp⟩ : ∃ p, R[j]? = some p := ⟨_, List.getElem?_eq_getElem hlt⟩
        have hR : R.drop j = p :: R.drop (j + 1) := by
          rw [List.drop_eq_getElem_cons hlt, (List.getElem?_eq_some_iff.1 hp).2]
        have hbp := HRC.out j p hp
        have hlti : (j : Int) < (RB.length : Int) := by omega
        have HN0 : Hid (p = .h → ¬ Part.h ∈ R.drop (j + 1)) := Hid.of (fun e => HRH.out j (by rw [hp, e]))
        clear hp
        cases p with
        | n =>
          have hbp : byteAt RB j = 110 := hbp
          clear HN0
          by_cases hlt2 : m.length < pn .n m
          · have hrs : rsz .n m = -1 := by unfold rsz; rw [if_pos hlt2]
            go_wp2_with fail
            refine (rsize_any wr .n m hml).mono ?_
            rintro e w4 ⟨rfl, rfl⟩
            rw [hrs]
            have xz := xr.store zero
            have kz := ksets wr rb zero
            obtain ⟨g0, g1, g2, g3, g4, g5, g6⟩ := xr.free
            obtain ⟨h0, h1, h2, h3, h4, h5, h6⟩ := xr.all
            obtain ⟨wz, hwz⟩ : ∃ wz, (((((((wr.setCell ⟨rb, 0, none⟩ (.int .i64 0)).setCell ⟨rb, 1, none⟩ (.int .i64 0)).setCell ⟨rb, 2, none⟩ (.int .i64 0)).setCell ⟨rb, 3, none⟩ (.int .i64 0)).setCell ⟨rb, 4, none⟩ (.int .u64 0)).setCell ⟨rb, 5, none⟩ (.string ⟨#[]⟩)).setCell ⟨rb, 6, none⟩ (.int .i64 0)) = wz := ⟨_, rfl⟩
            have hwz' : stored wr rb zero = wz := hwz
            rw [hwz'] at xz kz
            have Kz : Keeps (fun _ => False) w wz := K.trans' kz (fun x e hl => by have := HRB.out; omega)
            obtain ⟨y0, y1, y2, y3, y4, y5, y6⟩ := xz.all
            have HF := Hid.of Kz
            have HY := Hid.of (And.intro y0 (And.intro y1 (And.intro y2 (And.intro y3 (And.intro y4 (And.intro y5 y6))))))
            have HV : Hid (oneV l = (zero, [], false)) := by refine Hid.of ?_; unfold oneV; rw [HO.out, hR, parts_no hlt2]
            clear xz kz Kz hwz' y0 y1 y2 y3 y4 y5 y6 x2 xr K hR hrs hlt2
            go_wp2
            obtain ⟨y0, y1, y2, y3, y4, y5, y6⟩ := HY.out
            try simp only [Exit.then, Exit.inBlock]
            refine bodyPost_ret (v := .tuple #[Stp.val zero, .string (bs []), .bool false]) ?_ ?_ ?_
            · simp [results, Try.results64, go_sem, y0, y1, y2, y3, y4, y5, y6, Stp.val]
              rfl
            · rfl
            · rw [HV.out]; exact ⟨rfl, HF.out⟩
          · have hrs : rsz .n m = 2 := by unfold rsz; rw [if_neg hlt2]; rfl
            have h2 : 2 ≤ m.length := by have : ¬ m.length < 2 := hlt2; omega
            have HR := Hid.of hR
            have HL := Hid.of hlt2
            clear hR hlt2
            go_wp2_with fail
            refine (rsize_any wr .n m hml).mono ?_
            rintro e w4 ⟨rfl, rfl⟩
            rw [hrs]
            clear hrs
            go_wp2_with fail
            refine (rnum_any wr m h2).mono ?_
            rintro e w5 ⟨rfl, k5⟩
            have x5 := x2.keep k5 (fun x => x)
            have xr5 := xr.keep k5 (fun x => x)
            obtain ⟨g0, g1, g2, g3, g4, g5, g6⟩ := x5.free
            obtain ⟨h0, h1, h2', h3, h4, h5, h6⟩ := x5.all
            have x6 := x5.set_n (nm m)
            have k6 := kset w5 xb 2 (.int .i64 (nm m))
            obtain ⟨w6, hw6⟩ : ∃ w6, w5.setCell ⟨xb, 2, none⟩ (.int .i64 (nm m)) = w6 := ⟨_, rfl⟩
            rw [hw6] at x6 k6
            have xr6 := xr5.keep k6 (by omega)
            have K6 : Keeps (fun _ => False) w w6 := (K.trans k5).trans' k6 (fun x e hl => by have := HRB.out; omega)
            have X6 := Hid.of (And.intro x6 (And.intro xr6 K6))
            clear x2 xr x5 xr5 k5 k6 x6 xr6 K6 K
            go_wp2
            go_roundw
            case rel =>
              refine ⟨j + 1, m.drop 2, { x with n := nm m }, by omega, rfl, by go_num, X6.out.1, X6.out.2.1, ?_, ?_, by rw [List.length_drop]; omega, X6.out.2.2⟩
              · refine Hid.of ?_
                rw [HO.out, HR.out, parts_ok HL.out]
                rfl
              · refine Hid.of (fun hm => HH.out (by rw [HR.out]; exact List.mem_cons_of_mem _ hm))
            case measure => simp [intOf]; omega
        | m =>
          have hbp : byteAt RB j = 109 := hbp
          clear HN0
          by_cases hlt2 : m.length < pn .m m
          · have hrs : rsz .m m = -1 := by unfold rsz; rw [if_pos hlt2]
            go_wp2_with fail
            refine (rsize_any wr .m m hml).mono ?_
            rintro e w4 ⟨rfl, rfl⟩
            rw [hrs]
            have xz := xr.store zero
            have kz := ksets wr rb zero
            obtain ⟨g0, g1, g2, g3, g4, g5, g6⟩ := xr.free
            obtain ⟨h0, h1, h2, h3, h4, h5, h6⟩ := xr.all
            obtain ⟨wz, hwz⟩ : ∃ wz, (((((((wr.setCell ⟨rb, 0, none⟩ (.int .i64 0)).setCell ⟨rb, 1, none⟩ (.int .i64 0)).setCell ⟨rb, 2, none⟩ (.int .i64 0)).setCell ⟨rb, 3, none⟩ (.int .i64 0)).setCell ⟨rb, 4, none⟩ (.int .u64 0)).setCell ⟨rb, 5, none⟩ (.string ⟨#[]⟩)).setCell ⟨rb, 6, none⟩ (.int .i64 0)) = wz := ⟨_, rfl⟩
            have hwz' : stored wr rb zero = wz := hwz
            rw [hwz'] at xz kz
            have Kz : Keeps (fun _ => False) w wz := K.trans' kz (fun x e hl => by have := HRB.out; omega)
            obtain ⟨y0, y1, y2, y3, y4, y5, y6⟩ := xz.all
            have HF := Hid.of Kz
            have HY := Hid.of (And.intro y0 (And.intro y1 (And.intro y2 (And.intro y3 (And.intro y4 (And.intro y5 y6))))))
            have HV : Hid (oneV l = (zero, [], false)) := by refine Hid.of ?_; unfold oneV; rw [HO.out, hR, parts_no hlt2]
            clear xz kz Kz hwz' y0 y1 y2 y3 y4 y5 y6 x2 xr K hR hrs hlt2
            go_wp2
            obtain ⟨y0, y1, y2, y3, y4, y5, y6⟩ := HY.out
            try simp only [Exit.then, Exit.inBlock]
            refine bodyPost_ret (v := .tuple #[Stp.val zero, .string (bs []), .bool false]) ?_ ?_ ?_
            · simp [results, Try.results64, go_sem, y0, y1, y2, y3, y4, y5, y6, Stp.val]
              rfl
            · rfl
            · rw [HV.out]; exact ⟨rfl, HF.out⟩
          · have hrs : rsz .m m = 2 := by unfold rsz; rw [if_neg hlt2]; rfl
            have h2 : 2 ≤ m.length := by have : ¬ m.length < 2 := hlt2; omega
            have HR := Hid.of hR
            have HL := Hid.of hlt2
            clear hR hlt2
            go_wp2_with fail
            refine (rsize_any wr .m m hml).mono ?_
            rintro e w4 ⟨rfl, rfl⟩
            rw [hrs]
            clear hrs
            go_wp2_with fail
            refine (rnum_any wr m h2).mono ?_
            rintro e w5 ⟨rfl, k5⟩
            have x5 := x2.keep k5 (fun x => x)
            have xr5 := xr.keep k5 (fun x => x)
            obtain ⟨g0, g1, g2, g3, g4, g5, g6⟩ := x5.free
            obtain ⟨h0, h1, h2', h3, h4, h5, h6⟩ := x5.all
            have x6 := x5.set_m (nm m)
            have k6 := kset w5 xb 3 (.int .i64 (nm m))
            obtain ⟨w6, hw6⟩ : ∃ w6, w5.setCell ⟨xb, 3, none⟩ (.int .i64 (nm m)) = w6 := ⟨_, rfl⟩
            rw [hw6] at x6 k6
            have xr6 := xr5.keep k6 (by omega)
            have K6 : Keeps (fun _ => False) w w6 := (K.trans k5).trans' k6 (fun x e hl => by have := HRB.out; omega)
            have X6 := Hid.of (And.intro x6 (And.intro xr6 K6))
            clear x2 xr x5 xr5 k5 k6 x6 xr6 K6 K
            go_wp2
            go_roundw
            case rel =>
              refine ⟨j + 1, m.drop 2, { x with m := nm m }, by omega, rfl, by go_num, X6.out.1, X6.out.2.1, ?_, ?_, by rw [List.length_drop]; omega, X6.out.2.2⟩
              · refine Hid.of ?_
                rw [HO.out, HR.out, parts_ok HL.out]
                rfl
              · refine Hid.of (fun hm => HH.out (by rw [HR.out]; exact List.mem_cons_of_mem _ hm))
            case measure => simp [intOf]; omega
        | d =>
          have hbp : byteAt RB j = 100 := hbp
          clear HN0
          by_cases hlt2 : m.length < pn .d m
          · have hrs : rsz .d m = -1 := by unfold rsz; rw [if_pos hlt2]
            go_wp2_with fail
            refine (rsize_any wr .d m hml).mono ?_
            rintro e w4 ⟨rfl, rfl⟩
            rw [hrs]
            have xz := xr.store zero
            have kz := ksets wr rb zero
            obtain ⟨g0, g1, g2, g3, g4, g5, g6⟩ := xr.free
            obtain ⟨h0, h1, h2, h3, h4, h5, h6⟩ := xr.all
            obtain ⟨wz, hwz⟩ : ∃ wz, (((((((wr.setCell ⟨rb, 0, none⟩ (.int .i64 0)).setCell ⟨rb, 1, none⟩ (.int .i64 0)).setCell ⟨rb, 2, none⟩ (.int .i64 0)).setCell ⟨rb, 3, none⟩ (.int .i64 0)).setCell ⟨rb, 4, none⟩ (.int .u64 0)).setCell ⟨rb, 5, none⟩ (.string ⟨#[]⟩)).setCell ⟨rb, 6, none⟩ (.int .i64 0)) = wz := ⟨_, rfl⟩
            have hwz' : stored wr rb zero = wz := hwz
            rw [hwz'] at xz kz
            have Kz : Keeps (fun _ => False) w wz := K.trans' kz (fun x e hl => by have := HRB.out; omega)
            obtain ⟨y0, y1, y2, y3, y4, y5, y6⟩ := xz.all
            have HF := Hid.of Kz
            have HY := Hid.of (And.intro y0 (And.intro y1 (And.intro y2 (And.intro y3 (And.intro y4 (And.intro y5 y6))))))
            have HV : Hid (oneV l = (zero, [], false)) := by refine Hid.of ?_; unfold oneV; rw [HO.out, hR, parts_no hlt2]
            clear xz kz Kz hwz' y0 y1 y2 y3 y4 y5 y6 x2 xr K hR hrs hlt2
            go_wp2
            obtain ⟨y0, y1, y2, y3, y4, y5, y6⟩ := HY.out
            try simp only [Exit.then, Exit.inBlock]
            refine bodyPost_ret (v := .tuple #[Stp.val zero, .string (bs []), .bool false]) ?_ ?_ ?_
            · simp [results, Try.results64, go_sem, y0, y1, y2, y3, y4, y5, y6, Stp.val]
              rfl
            · rfl
            · rw [HV.out]; exact ⟨rfl, HF.out⟩
          · have hrs : rsz .d m = (1 + (m.getD 0 0).toNat : Nat) := by unfold rsz; rw [if_neg hlt2]; rfl
            have h2 : 1 + (m.getD 0 0).toNat ≤ m.length := by have : ¬ m.length < 1 + (m.getD 0 0).toNat := hlt2; omega
            have HR := Hid.of hR
            have HL := Hid.of hlt2
            obtain ⟨n, hn⟩ : ∃ n, 1 + (m.getD 0 0).toNat = n := ⟨_, rfl⟩
            have hn1 : 1 ≤ n := by omega
            have HN := Hid.of hn
            rw [hn] at hrs h2
            clear hR hlt2 hn
            go_wp2_with fail
            refine (rsize_any wr .d m hml).mono ?_
            rintro e w4 ⟨rfl, rfl⟩
            rw [hrs]
            clear hrs
            obtain ⟨g0, g1, g2, g3, g4, g5, g6⟩ := x2.free
            obtain ⟨h0, h1, h2', h3, h4, h5, h6⟩ := x2.all
            have x6 := x2.set_data ((m.take n).tail)
            have k6 := kset wr xb 5 (.string (bs ((m.take n).tail)))
            obtain ⟨w6, hw6⟩ : ∃ w6, wr.setCell ⟨xb, 5, none⟩ (.string (bs ((m.take n).tail))) = w6 := ⟨_, rfl⟩
            rw [hw6] at x6 k6
            have xr6 := xr.keep k6 (by omega)
            have K6 : Keeps (fun _ => False) w w6 := K.trans' k6 (fun x e hl => by have := HRB.out; omega)
            have X6 := Hid.of (And.intro x6 (And.intro xr6 K6))
            clear x2 xr k6 x6 xr6 K6 K
            go_wp2
            go_roundw
            case rel =>
              refine ⟨j + 1, m.drop n, { x with data := (m.take n).tail }, by omega, rfl, by go_num, X6.out.1, X6.out.2.1, ?_, ?_, by rw [List.length_drop]; omega, X6.out.2.2⟩
              · refine Hid.of ?_
                rw [HO.out, HR.out, parts_ok HL.out, pn_d, HN.out, ← List.drop_one]
                rfl
              · refine Hid.of (fun hm => HH.out (by rw [HR.out]; exact List.mem_cons_of_mem _ hm))
            case measure => simp [intOf]; omega
        | h =>
          have hbp : byteAt RB j = 104 := hbp
          have HNH := Hid.of (HN0.out rfl)
          clear HN0
          by_cases hlt2 : m.length < pn .h m
          · have hrs : rsz .h m = -1 := by unfold rsz; rw [if_pos hlt2]
            go_wp2_with fail
            refine (rsize_any wr .h m hml).mono ?_
            rintro e w4 ⟨rfl, rfl⟩
            rw [hrs]
            have xz := xr.store zero
            have kz := ksets wr rb zero
            obtain ⟨g0, g1, g2, g3, g4, g5, g6⟩ := xr.free
            obtain ⟨h0, h1, h2, h3, h4, h5, h6⟩ := xr.all
            obtain ⟨wz, hwz⟩ : ∃ wz, (((((((wr.setCell ⟨rb, 0, none⟩ (.int .i64 0)).setCell ⟨rb, 1, none⟩ (.int .i64 0)).setCell ⟨rb, 2, none⟩ (.int .i64 0)).setCell ⟨rb, 3, none⟩ (.int .i64 0)).setCell ⟨rb, 4, none⟩ (.int .u64 0)).setCell ⟨rb, 5, none⟩ (.string ⟨#[]⟩)).setCell ⟨rb, 6, none⟩ (.int .i64 0)) = wz := ⟨_, rfl⟩
            have hwz' : stored wr rb zero = wz := hwz
            rw [hwz'] at xz kz
            have Kz : Keeps (fun _ => False) w wz := K.trans' kz (fun x e hl => by have := HRB.out; omega)
            obtain ⟨y0, y1, y2, y3, y4, y5, y6⟩ := xz.all
            have HF := Hid.of Kz
            have HY := Hid.of (And.intro y0 (And.intro y1 (And.intro y2 (And.intro y3 (And.intro y4 (And.intro y5 y6))))))
            have HV : Hid (oneV l = (zero, [], false)) := by refine Hid.of ?_; unfold oneV; rw [HO.out, hR, parts_no hlt2]
            clear xz kz Kz hwz' y0 y1 y2 y3 y4 y5 y6 x2 xr K hR hrs hlt2
            go_wp2
            obtain ⟨y0, y1, y2, y3, y4, y5, y6⟩ := HY.out
            try simp only [Exit.then, Exit.inBlock]
            refine bodyPost_ret (v := .tuple #[Stp.val zero, .string (bs []), .bool false]) ?_ ?_ ?_
            · simp [results, Try.results64, go_sem, y0, y1, y2, y3, y4, y5, y6, Stp.val]
              rfl
            · rfl
            · rw [HV.out]; exact ⟨rfl, HF.out⟩
          · have hH0 : x.handle = 0 := HH.out (by rw [hR]; exact List.mem_cons_self)
            by_cases h9 : (m.getD 0 0).toNat = 255
            · have hp : pn .h m = 9 := by rw [pn_h, if_pos h9]
              have hrs : rsz .h m = 9 := by unfold rsz; rw [if_neg hlt2, hp]; rfl
              have h2 : 9 ≤ m.length := by rw [hp] at hlt2; omega
              have HR := Hid.of hR
              have HL := Hid.of hlt2
              have hne1 : ((m.getD 0 0).toNat == 255) = true := by simpa using h9
              clear hR hlt2 hne1
              have HP := Hid.of hp
              have H9 := Hid.of h9
              clear hp h9
              go_wp2_with fail
              refine (rsize_any wr .h m hml).mono ?_
              rintro e w4 ⟨rfl, rfl⟩
              rw [hrs]
              clear hrs
              go_wp2
              go_loopw [9] (fun k w4 => ∃ c : Nat, c ≤ 8 ∧ k = .int .i64 c ∧ XAt w4 xb { x with handle := hv ((m.take 9).drop (c + 1)) } ∧ XAt w4 rb zero ∧ Keeps (fun _ => False) w w4) (fun k _ => (intOf k).toNat)
              case atStart =>
                refine ⟨8, Nat.le_refl _, rfl, ?_, xr, K⟩
                have e : (m.take 9).drop (8 + 1) = [] := List.drop_eq_nil_of_le (by simp; omega)
                rw [e]
                have e2 : ({ x with handle := hv [] } : Stp) = x := by rw [show hv [] = x.handle from hH0.symm]
                rw [e2]; exact x2
              case round =>
                clear x2 xr K
                obtain ⟨c, hc, rfl, x2, xr, K⟩ := hrel
                by_cases hc1 : 1 ≤ c
                · have hmc : c < m.length := by omega
                  obtain ⟨v1, v2⟩ := byteAt_bd m c
                  obtain ⟨u1, u2⟩ := hv_bound ((m.take 9).drop (c + 1))
                  have hlen : ((m.take 9).drop (c + 1)).length = 8 - c := by simp; omega
                  have hstep : hv ((m.take 9).drop c) = hv ((m.take 9).drop (c + 1)) * 256 + byteAt m c := by
                    have hcl : c < (m.take 9).length := by simp; omega
                    rw [List.drop_eq_getElem_cons hcl, hv]
                    have : (((m.take 9)[c]).toNat : Int) = byteAt m c := by
                      unfold byteAt
                      simp [List.getD_eq_getElem?_getD, List.getElem?_eq_getElem hmc]
                    rw [this]; omega
                  have u3 : hv ((m.take 9).drop (c + 1)) ≤ 72057594037927935 := by
                    rw [hlen] at u2
                    have : (256 : Int) ^ (8 - c) ≤ 256 ^ 7 := by
                      have := Nat.pow_le_pow_right (n := 256) (by omega) (show 8 - c ≤ 7 by omega)
                      exact_mod_cast this
                    omega
                  obtain ⟨nx, hnx⟩ : ∃ nx, hv ((m.take 9).drop c) = nx := ⟨_, rfl⟩
                  rw [hnx] at hstep
                  have x5 := x2.set_handle nx
                  obtain ⟨c4, c6, f4, f6⟩ := x2.cells
                  simp only [] at c4
                  generalize hv ((m.take 9).drop (c + 1)) = h0 at *
                  generalize hbv : byteAt m c = bv at *
                  have w1' : IntKind.u64.wrap (h0 * 256) = h0 * 256 := by rw [IntKind.wrap_u64]; omega
                  have w2' : IntKind.u64.wrap (h0 * 256 + bv) = nx := by rw [IntKind.wrap_u64]; omega
                  have w3' : h0 * 256 + bv = nx := hstep.symm
                  have w4' : IntKind.u64.wrap nx = nx := by rw [IntKind.wrap_u64]; omega
                  skip
                  have X5 := Hid.of x5
                  have HNX := Hid.of hnx
                  clear u2 hlen hstep x5 x2 hnx
                  go_wp2
                  go_still_tail 11, (by kernel_rfl)
                  change wpList _ _ _ _ _ wr.drew
                  have c4d : wr.drew.cell? ⟨xb, 4, none⟩ = some (.int .u64 h0) := c4
                  have f4d : wr.drew.frozen? ⟨xb, 4, none⟩ = false := f4
                  have HW3 := Hid.of w3'
                  clear w1' w2' w3' w4' c4 f4 c6 f6
                  go_wp2
                  go_roundw
                  case rel =>
                    have k6 := (kset wr xb 4 (.int .u64 nx)).drew
                    repeat apply Exists.intro
                    refine ⟨?_, rfl⟩
                    rw [HW3.out]
                    refine ⟨c - 1, by omega, by congr 1; omega, ?_, xr.keep k6 (by omega), K.trans' k6 (fun x e hl => by have := HRB.out; omega)⟩
                    rw [show c - 1 + 1 = c by omega, HNX.out]
                    exact X5.out
                  case measure => simp [intOf]; omega
                · have hc0 : c = 0 := by omega
                  subst hc0
                  have X6 := Hid.of (And.intro x2 (And.intro xr K))
                  clear x2 xr K
                  go_wp2
                  go_roundw
                  case rel =>
                    refine ⟨j + 1, m.drop 9, { x with handle := hv ((m.take 9).drop 1) }, by omega, rfl, by go_num, X6.out.1, X6.out.2.1, ?_, ?_, by rw [List.length_drop]; omega, X6.out.2.2⟩
                    · refine Hid.of ?_
                      rw [HO.out, HR.out, parts_ok HL.out, HP.out]
                      rfl
                    · exact Hid.of (fun hm => absurd hm HNH.out)
                  case measure => simp [intOf]; omega
            · have hp : pn .h m = 1 := by rw [pn_h, if_neg h9]
              have hrs : rsz .h m = 1 := by unfold rsz; rw [if_neg hlt2, hp]; rfl
              have h2 : 1 ≤ m.length := by rw [hp] at hlt2; omega
              have HR := Hid.of hR
              have HL := Hid.of hlt2
              have HP := Hid.of hp
              have H9 := Hid.of h9
              obtain ⟨v1, v2⟩ := byteAt_bd m 0
              clear hp h9 hR hlt2
              go_wp2_with fail
              refine (rsize_any wr .h m hml).mono ?_
              rintro e w4 ⟨rfl, rfl⟩
              rw [hrs]
              clear hrs
              obtain ⟨g0, g1, g2, g3, g4, g5, g6⟩ := x2.free
              obtain ⟨h0, h1, h2', h3, h4, h5, h6⟩ := x2.all
              have x6 := x2.set_back (byteAt m 0)
              have k6 := kset wr xb 6 (.int .i64 (byteAt m 0))
              obtain ⟨w6, hw6⟩ : ∃ w6, wr.setCell ⟨xb, 6, none⟩ (.int .i64 (byteAt m 0)) = w6 := ⟨_, rfl⟩
              rw [hw6] at x6 k6
              have xr6 := xr.keep k6 (by omega)
              have K6 : Keeps (fun _ => False) w w6 := K.trans' k6 (fun x e hl => by have := HRB.out; omega)
              have X6 := Hid.of (And.intro x6 (And.intro xr6 K6))
              clear x2 xr k6 x6 xr6 K6 K
              go_wp2
              go_loopw [9] (fun k w4 => k = .int .i64 0 ∧ w4 = w6) (fun k _ => (intOf k).toNat)
              case atStart => exact ⟨rfl, rfl⟩
              case round =>
                obtain ⟨rfl, rfl⟩ := hrel
                go_wp2
                go_roundw
                case rel =>
                  refine ⟨j + 1, m.tail, { x with back := byteAt m 0 }, by omega, rfl, by go_num, X6.out.1, X6.out.2.1, ?_, ?_, by rw [List.length_tail]; omega, X6.out.2.2⟩
                  · refine Hid.of ?_
                    rw [HO.out, HR.out, parts_ok HL.out, HP.out, List.drop_one]
                    rfl
                  · refine Hid.of (fun hm => HH.out (by rw [HR.out]; exact List.mem_cons_of_mem _ hm))
                case measure => simp [intOf]; omega
      · have hje : j = R.length := by omega
        have HV : Hid (oneV l = (x, m, true)) := by
          refine Hid.of ?_
          unfold oneV
          rw [HO.out, hje, List.drop_length]; rfl
        subst hje
        obtain ⟨g0, g1, g2, g3, g4, g5, g6⟩ := xr.free
        obtain ⟨h0, h1, h2, h3, h4, h5, h6⟩ := xr.all
        obtain ⟨i0, i1, i2, i3, i4, i5, i6⟩ := x2.all
        have xz := xr.store x
        have kz := ksets wr rb x
        obtain ⟨wz, hwz⟩ : ∃ wz, (((((((wr.setCell ⟨rb, 0, none⟩ (.int .i64 x.kind)).setCell ⟨rb, 1, none⟩ (.int .i64 x.tenant)).setCell ⟨rb, 2, none⟩ (.int .i64 x.n)).setCell ⟨rb, 3, none⟩ (.int .i64 x.m)).setCell ⟨rb, 4, none⟩ (.int .u64 x.handle)).setCell ⟨rb, 5, none⟩ (.string (bs x.data))).setCell ⟨rb, 6, none⟩ (.int .i64 x.back)) = wz := ⟨_, rfl⟩
        have hwz' : stored wr rb x = wz := hwz
        rw [hwz'] at xz kz
        have Kz : Keeps (fun _ => False) w wz := K.trans' kz (fun x e hl => by have := HRB.out; omega)
        obtain ⟨y0, y1, y2, y3, y4, y5, y6⟩ := xz.all
        have HF := Hid.of Kz
        have HY := Hid.of (And.intro y0 (And.intro y1 (And.intro y2 (And.intro y3 (And.intro y4 (And.intro y5 y6))))))
        clear xz kz Kz hwz' y0 y1 y2 y3 y4 y5 y6 x2 xr K
        go_wp2
        obtain ⟨y0, y1, y2, y3, y4, y5, y6⟩ := HY.out
        try simp only [Exit.then, Exit.inBlock]
        refine bodyPost_ret (v := .tuple #[Stp.val x, .string (bs m), .bool true]) ?_ ?_ ?_
        · simp [results, Try.results64, go_sem, y0, y1, y2, y3, y4, y5, y6, Stp.val]
        · rfl
        · rw [HV.out]; exact ⟨rfl, HF.out⟩
end Scr
end Go.Proofs.Ytmlolkjgniodpaa

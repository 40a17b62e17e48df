/- The pools' laws: awake. -/
import Derived.Test.YtcjdejhjbelggaaDoorPoF
set_option linter.unusedVariables false
set_option linter.unusedSimpArgs false
namespace Go.Proofs.YtcjdejhjbelggaaDoor
open Go.RowKit Go.ChangeMaps
namespace Po
theorem aw0M : grantM (List.replicate 4 (-1)) 0 2 = [0, 1] := by decide +kernel
theorem aw0E : grantE (List.replicate 4 (-1)) 0 2 = 0 := by decide +kernel
theorem aw0O : grantO (List.replicate 4 (-1)) 0 2 = [0, 0, (-1), (-1)] := by decide +kernel
theorem aw1M : grantM [0, 0, (-1), (-1)] 1 1 = [2] := by decide +kernel
theorem aw1E : grantE [0, 0, (-1), (-1)] 1 1 = 0 := by decide +kernel
theorem aw1O : grantO [0, 0, (-1), (-1)] 1 1 = [0, 0, 1, (-1)] := by decide +kernel
theorem aw2M : shrinkM [0, 0, 1, (-1)] 0 0 = [0, 1] := by decide +kernel
theorem aw2E : shrinkE [0, 0, 1, (-1)] 0 0 = 0 := by decide +kernel
theorem aw2O : shrinkO [0, 0, 1, (-1)] 0 0 = [(-1), (-1), 1, (-1)] := by decide +kernel
theorem aw3M : grantM [(-1), (-1), 1, (-1)] 2 3 = [0, 1, 3] := by decide +kernel
theorem aw3E : grantE [(-1), (-1), 1, (-1)] 2 3 = 0 := by decide +kernel
theorem aw3O : grantO [(-1), (-1), 1, (-1)] 2 3 = [2, 2, 1, 2] := by decide +kernel
theorem aw4M : grantM [2, 2, 1, 2] 3 1 = [] := by decide +kernel
theorem aw4E : grantE [2, 2, 1, 2] 3 1 = 9 := by decide +kernel
theorem aw4O : grantO [2, 2, 1, 2] 3 1 = [2, 2, 1, 2] := by decide +kernel
theorem aw5M : shrinkM [2, 2, 1, 2] 2 1 = [1, 3] := by decide +kernel
theorem aw5E : shrinkE [2, 2, 1, 2] 2 1 = 0 := by decide +kernel
theorem aw5O : shrinkO [2, 2, 1, 2] 2 1 = [2, (-1), 1, (-1)] := by decide +kernel
theorem aw_good : Good [2, (-1), 1, (-1)] := by unfold Good; decide +kernel
set_option maxRecDepth 100000 in
set_option maxHeartbeats 2000000 in
theorem awake_any (w : World) (hT : Sh.Tab w) :
    Calls Tryd.prog 10 #[] w fun e w' => e = .returned (.bool true) ∧ Keeps (fun _ => False) w w' := by
  have q0 := new_any w 4 (by omega) (by omega) hT
  go_enter Tryd.func10, Tryd.ntmps10
  go_wp2_with fail
  refine q0.mono ?_
  rintro e w0 ⟨p, s, v, V0, rfl, a0, f0, -, k0⟩
  have T0 := hT.old k0
  have HF := Hid.of f0
  have HK := Hid.of (k0.mono (G := Fp p s v) (fun _ _ x => x.elim))
  clear q0 f0 k0 hT
  have q := grant_any w0 p s v V0 _ 0 2 a0 T0
  rw [aw0M, aw0E, aw0O] at q
  have HA0 := Hid.of a0
  clear a0
  go_wp2_with fail
  refine q.mono ?_
  rintro e w1 ⟨u, V1, rfl, o1, a1, k1, -⟩
  obtain ⟨Aa, ca, rfl, -, ba, ra⟩ := o1.rd
  have na : ∀ ad, Aa = some ad → ¬ Fp p s v ad.block := fun ad ea hx => by have := (ba ad ea).1; have := HA0.out.lt hx; omega
  have T1 := T0.keep k1 HA0.out.off
  have HK := Hid.of (HK.out.trans k1)
  clear q o1 k1 ba T0 HA0
  have q := grant_any w1 p s v V1 _ 1 1 a1 T1
  rw [aw1M, aw1E, aw1O] at q
  have HA1 := Hid.of a1
  clear a1
  go_wp2_with fail
  refine q.mono ?_
  rintro e w2 ⟨u, V2, rfl, o2, a2, k2, -⟩
  obtain ⟨Ab, cb, rfl, -, bb, rb⟩ := o2.rd
  have nb : ∀ ad, Ab = some ad → ¬ Fp p s v ad.block := fun ad ea hx => by have := (bb ad ea).1; have := HA1.out.lt hx; omega
  have ra := ra.keep k2 (fun ad ea _ => na ad ea)
  have T2 := T1.keep k2 HA1.out.off
  have HK := Hid.of (HK.out.trans k2)
  clear q o2 k2 bb T1 HA1
  have q := drop_any w2 p s v V2 _ 0 a2
  rw [aw2M, aw2E, aw2O] at q
  have HA2 := Hid.of a2
  clear a2
  go_wp2_with fail
  refine q.mono ?_
  rintro e w3 ⟨u, V3, rfl, o3, a3, k3, -⟩
  obtain ⟨Ac, cc, rfl, -, bc, rc⟩ := o3.rd
  have nc : ∀ ad, Ac = some ad → ¬ Fp p s v ad.block := fun ad ea hx => by have := (bc ad ea).1; have := HA2.out.lt hx; omega
  have ra := ra.keep k3 (fun ad ea _ => na ad ea)
  have rb := rb.keep k3 (fun ad ea _ => nb ad ea)
  have T3 := T2.keep k3 HA2.out.off
  have HK := Hid.of (HK.out.trans k3)
  clear q o3 k3 bc T2 HA2
  have q := grant_any w3 p s v V3 _ 2 3 a3 T3
  rw [aw3M, aw3E, aw3O] at q
  have HA3 := Hid.of a3
  clear a3
  go_wp2_with fail
  refine q.mono ?_
  rintro e w4 ⟨u, V4, rfl, o4, a4, k4, -⟩
  obtain ⟨Ad, cd, rfl, -, bd, rd⟩ := o4.rd
  have nd : ∀ ad, Ad = some ad → ¬ Fp p s v ad.block := fun ad ea hx => by have := (bd ad ea).1; have := HA3.out.lt hx; omega
  have ra := ra.keep k4 (fun ad ea _ => na ad ea)
  have rb := rb.keep k4 (fun ad ea _ => nb ad ea)
  have rc := rc.keep k4 (fun ad ea _ => nc ad ea)
  have T4 := T3.keep k4 HA3.out.off
  have HK := Hid.of (HK.out.trans k4)
  clear q o4 k4 bd T3 HA3
  have q := grant_any w4 p s v V4 _ 3 1 a4 T4
  rw [aw4M, aw4E, aw4O] at q
  have HA4 := Hid.of a4
  clear a4
  go_wp2_with fail
  refine q.mono ?_
  rintro e w5 ⟨u, V5, rfl, o5, a5, k5, -⟩
  obtain ⟨Af, cf, rfl, -, bf, rf⟩ := o5.rd
  have nf : ∀ ad, Af = some ad → ¬ Fp p s v ad.block := fun ad ea hx => by have := (bf ad ea).1; have := HA4.out.lt hx; omega
  have ra := ra.keep k5 (fun ad ea _ => na ad ea)
  have rb := rb.keep k5 (fun ad ea _ => nb ad ea)
  have rc := rc.keep k5 (fun ad ea _ => nc ad ea)
  have rd := rd.keep k5 (fun ad ea _ => nd ad ea)
  have T5 := T4.keep k5 HA4.out.off
  have HK := Hid.of (HK.out.trans k5)
  clear q o5 k5 bf T4 HA4
  have q := shrink_any w5 p s v V5 _ 2 1 a5
  rw [aw5M, aw5E, aw5O] at q
  have HA5 := Hid.of a5
  clear a5
  go_wp2_with fail
  refine q.mono ?_
  rintro e w6 ⟨u, V6, rfl, o6, a6, k6, -⟩
  obtain ⟨Ag, cg, rfl, -, bg, rg⟩ := o6.rd
  have ng : ∀ ad, Ag = some ad → ¬ Fp p s v ad.block := fun ad ea hx => by have := (bg ad ea).1; have := HA5.out.lt hx; omega
  have ra := ra.keep k6 (fun ad ea _ => na ad ea)
  have rb := rb.keep k6 (fun ad ea _ => nb ad ea)
  have rc := rc.keep k6 (fun ad ea _ => nc ad ea)
  have rd := rd.keep k6 (fun ad ea _ => nd ad ea)
  have rf := rf.keep k6 (fun ad ea _ => nf ad ea)
  have T6 := T5.keep k6 HA5.out.off
  have HK := Hid.of (HK.out.trans k6)
  clear q o6 k6 bg T5 HA5
  have HK := Hid.of (HK.out.mono (G := Fp p s v) (fun _ _ x => x))
  have HA := Hid.of a6
  clear a6 T6
  have HL : Hid (Keeps (fun _ => False) w6 w6) := Hid.of (Keeps.refl _ _)
  go_wp2_with fail
  obtain ⟨wl, hwl⟩ : ∃ wl, w6.alloc (.cells #[.int .i64 0, .int .i64 1] 3) = wl := ⟨_, rfl⟩
  have kl : Keeps (fun _ => False) w6 wl := by rw [← hwl]; exact (Keeps.refl _ _).alloc _
  have rl : Rd wl (some ⟨w6.heap.size, 0, none⟩) (ints [0, 1]) := by rw [← hwl]; exact rd_lit _ _ _
  have q := same_is wl Aa (some ⟨w6.heap.size, 0, none⟩) ca 2 [0, 1] [0, 1] 2 2 true (ra.old kl) rl rfl rfl (by omega) (by omega) (by decide)
  rw [← hwl] at q
  refine q.mono ?_
  rintro e x0 ⟨rfl, kk⟩
  rw [hwl] at kk
  have kx := kl.trans kk
  have ra := ra.old kx
  have rb := rb.old kx
  have rc := rc.old kx
  have rd := rd.old kx
  have rg := rg.old kx
  have HL := Hid.of (HL.out.trans kx)
  clear q kk kx kl hwl rl
  go_wp2_with fail
  obtain ⟨wl, hwl⟩ : ∃ wl, x0.alloc (.cells #[.int .i64 2] 3) = wl := ⟨_, rfl⟩
  have kl : Keeps (fun _ => False) x0 wl := by rw [← hwl]; exact (Keeps.refl _ _).alloc _
  have rl : Rd wl (some ⟨x0.heap.size, 0, none⟩) (ints [2]) := by rw [← hwl]; exact rd_lit _ _ _
  have q := same_is wl Ab (some ⟨x0.heap.size, 0, none⟩) cb 1 [2] [2] 1 1 true (rb.old kl) rl rfl rfl (by omega) (by omega) (by decide)
  rw [← hwl] at q
  refine q.mono ?_
  rintro e x1 ⟨rfl, kk⟩
  rw [hwl] at kk
  have kx := kl.trans kk
  have ra := ra.old kx
  have rb := rb.old kx
  have rc := rc.old kx
  have rd := rd.old kx
  have rg := rg.old kx
  have HL := Hid.of (HL.out.trans kx)
  clear q kk kx kl hwl rl
  go_wp2_with fail
  have kl : Keeps (fun _ => False) x1 x1 := Keeps.refl _ _
  have q := same_is x1 Ac Aa cc ca [0, 1] [0, 1] 2 2 true rc ra rfl rfl (by omega) (by omega) (by decide)
  refine q.mono ?_
  rintro e x2 ⟨rfl, kk⟩
  have kx := kl.trans kk
  have ra := ra.old kx
  have rb := rb.old kx
  have rc := rc.old kx
  have rd := rd.old kx
  have rg := rg.old kx
  have HL := Hid.of (HL.out.trans kx)
  clear q kk kx kl
  go_wp2_with fail
  obtain ⟨wl, hwl⟩ : ∃ wl, x2.alloc (.cells #[.int .i64 0, .int .i64 1, .int .i64 3] 3) = wl := ⟨_, rfl⟩
  have kl : Keeps (fun _ => False) x2 wl := by rw [← hwl]; exact (Keeps.refl _ _).alloc _
  have rl : Rd wl (some ⟨x2.heap.size, 0, none⟩) (ints [0, 1, 3]) := by rw [← hwl]; exact rd_lit _ _ _
  have q := same_is wl Ad (some ⟨x2.heap.size, 0, none⟩) cd 3 [0, 1, 3] [0, 1, 3] 3 3 true (rd.old kl) rl rfl rfl (by omega) (by omega) (by decide)
  rw [← hwl] at q
  refine q.mono ?_
  rintro e x3 ⟨rfl, kk⟩
  rw [hwl] at kk
  have kx := kl.trans kk
  have ra := ra.old kx
  have rb := rb.old kx
  have rc := rc.old kx
  have rd := rd.old kx
  have rg := rg.old kx
  have HL := Hid.of (HL.out.trans kx)
  clear q kk kx kl hwl rl
  go_wp2_with fail
  obtain ⟨wl, hwl⟩ : ∃ wl, x3.alloc (.cells #[.int .i64 1, .int .i64 3] 3) = wl := ⟨_, rfl⟩
  have kl : Keeps (fun _ => False) x3 wl := by rw [← hwl]; exact (Keeps.refl _ _).alloc _
  have rl : Rd wl (some ⟨x3.heap.size, 0, none⟩) (ints [1, 3]) := by rw [← hwl]; exact rd_lit _ _ _
  have q := same_is wl Ag (some ⟨x3.heap.size, 0, none⟩) cg 2 [1, 3] [1, 3] 2 2 true (rg.old kl) rl rfl rfl (by omega) (by omega) (by decide)
  rw [← hwl] at q
  refine q.mono ?_
  rintro e x4 ⟨rfl, kk⟩
  rw [hwl] at kk
  have kx := kl.trans kk
  have ra := ra.old kx
  have rb := rb.old kx
  have rc := rc.old kx
  have rd := rd.old kx
  have rg := rg.old kx
  have HL := Hid.of (HL.out.trans kx)
  clear q kk kx kl hwl rl
  have qo := owner_any x4 p s v V6 _ 2 (HA.out.old HL.out) aw_good
  rw [show ownerL [2, (-1), 1, (-1)] 2 = 1 from by decide +kernel] at qo
  go_wp2_with fail
  refine qo.mono ?_
  rintro e wz ⟨rfl, kz⟩
  have HZ := Hid.of (HL.out.trans kz)
  clear qo kz
  go_wp2
  go_ret
  refine ⟨rfl, ?_⟩
  have K := (HK.out.trans (HZ.out.mono (fun _ _ x => x.elim)))
  exact K.mono (fun x hx hf => by have := HF.out x hf; omega)
end Po
end Go.Proofs.YtcjdejhjbelggaaDoor

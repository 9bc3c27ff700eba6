/-
 The document's log: Read, From.
 The document's log: Open.
-/
import Derived.Test.YtjjcilinghgphaaGreatUB
import Derived.Test.YtjjcilinghgphaaGreatVF
import Derived.Test.YtjjcilinghgphaaGreatUA
import Derived.Test.YtjjcilinghgphaaGreatF5
/-! ### The document's log: Read, From. -/
namespace Go.Proofs.YtjjcilinghgphaaGreat
open Go.RowKit Go.Maps
set_option maxRecDepth 100000
attribute [local go_sem] bs_size bs_toList
section
variable {w w' : World} {l c : Nat} {dir : List UInt8} {room : Int} {sf : Nat} {nv av : Value} {fs : List Nat} {us : List Value} {rs : List (List UInt8)} {S : Nat → Prop} {s : DS} {g : LG}
/-- Records handed out, as rows. -/
theorem RgM.rows (h : RgM w l c dir room sf nv av fs us rs) {D k base : Nat} {v : Value} (ho : w.ownsRow base 24 1 v k ((us.drop D).take k)) (hk : D + k ≤ rs.length) : ∃ a cap, v = .slice a k cap ∧ Rd88 w a k cap ((rs.drop D).take k) := by
 obtain ⟨a, cap, hv, hr⟩ := Rd.of_own ho
 refine ⟨a, cap, hv, by rw [List.length_take, List.length_drop]; omega, _, hr, fun i p hp => ?_⟩
 rw [List.getElem?_take] at hp
 split at hp
 · rename_i hik
   rw [List.getElem?_drop] at hp
   obtain ⟨_, _, _, a', ca', _, _, h3, h4⟩ := h.recc hp
   refine ⟨a', ca', ?_, h3⟩
   rw [List.getElem?_take, if_pos hik, List.getElem?_drop]
   exact h4
 · cases hp
def RReadPost7 (w : World) (S : Nat → Prop) (g : LG) (n : Int) (e : Ending) (w' : World) : Prop :=
 ∃ a ca, e = .returned (.tuple #[.slice a (if hasL g n then recL g n else []).length ca, .int .i64 (if hasL g n then 0 else 8)]) ∧ Rd8 w' a (if hasL g n then recL g n else []).length ca (if hasL g n then recL g n else []) ∧
  BlkIn a (if hasL g n then recL g n else []).length S ∧ ∃ k, w' = w.drewN k
theorem rec_get {s : DS} {g : LG} (hk : LOk s g) {N : Nat} (h1 : g.first ≤ N) (h2 : N < g.next) : g.all[N - g.first]? = some (recL g (N : Int)) := by
 have h5 := hk.all_len
 unfold recL
 rw [List.getD_eq_getElem?_getD, show ((N : Nat) : Int).toNat = N from rfl, List.getElem?_eq_getElem (by omega)]
 rfl
set_option maxHeartbeats 2000000 in
theorem rreadL_any (h : RgG w l c S g) (hk : LOk s g) (n : Int) (_hn0 : -9223372036854775808 ≤ n) (_hn1 : n ≤ 9223372036854775807) :
 Calls Tryz.prog 35 #[.pointer (some ⟨l, 0, none⟩), .int .i64 n] w (RReadPost7 w S g n) := by
 have hno : Hid (hasL g n = false → ∀ i, RReadPost7 w S g n (.returned (.tuple #[.slice none 0 0, .int .i64 8])) (w.drewN i)) := fun hb i =>
  ⟨none, 0, by rw [hb]; rfl, by rw [hb]; exact ⟨rfl, Rd.nil _ _⟩, by rw [hb]; exact fun h0 => absurd h0 (by simp), i, rfl⟩
 have H2 := Lib.hid (h.next hk)
 have hfn := hk.all_len
 have hnl := hk.next_le
 have hget := fun N h1 h2 => rec_get (N := N) hk h1 h2
 obtain ⟨nv, av, us, hM, hC, _⟩ := h
 have H0 := Lib.hid (rfirst_any hM g.nums0)
 have H1 : Hid (∀ W, Below w.heap.size w W → Calls Tryz.prog 31 #[.pointer (some ⟨l, 0, none⟩)] W fun e w' => e = .returned (.int .i64 (g.first : Nat)) ∧ w' = W) := fun W hW =>
  (rfirst_any (hM.new hW) g.nums0).mono fun e w' hh => ⟨hh.1, hh.2.symm⟩
 by_cases hlo : n < (g.first : Int)
 · have hb : hasL g n = false := by unfold hasL; simp; omega
   have HNO := Lib.hid (hno.out hb)
   clear hM hC hk hb hno hget hfn hnl
   go_enter Tryz.func35, Tryz.ntmps35
   go_wp2_with fail
   go_at_call 31
   refine (H0.out).mono ?_
   rintro e w1 ⟨rfl, rfl⟩
   go_wp2_with fail
   go_ret2
   exact HNO.out 0
 · by_cases hhi : (g.next : Int) ≤ n
   · have hb : hasL g n = false := by unfold hasL; simp; omega
     have HNO := Lib.hid (hno.out hb)
     clear hM hC hk hb hno hget hfn hnl
     go_enter Tryz.func35, Tryz.ntmps35
     go_wp2_with fail
     go_at_call 31
     refine (H0.out).mono ?_
     rintro e w1 ⟨rfl, rfl⟩
     go_wp2_with fail
     go_at_call 32
     refine (H2.out).mono ?_
     rintro e w1 ⟨rfl, i, rfl⟩
     go_wp2_with fail
     go_ret2
     exact HNO.out i
   · have hb : hasL g n = true := by unfold hasL; simp; omega
     obtain ⟨N, rfl⟩ : ∃ N : Nat, n = (N : Int) := ⟨n.toNat, by omega⟩
     have hg := hget N (by omega) (by omega)
     have hlt := (List.getElem?_eq_some_iff.1 hg).1
     obtain ⟨r, off, cap, a, ca, rfl, hp, hrd, hu⟩ := hM.recc hg
     have hun := hC.cu _ (List.mem_of_getElem? hu)
     obtain ⟨_, _, _, _, c4, _, _, _, _⟩ := hM.cells
     have HY : Hid (∀ i j, RReadPost7 w S g N (.returned (.tuple #[.slice a (recL g N).length ca, .int .i64 0])) ((w.drewN i).drewN j)) := fun i j =>
      ⟨a, ca, by rw [hb]; rfl, by rw [hb]; exact hrd.below (below_dn (below_dn (Below.refl _ _) _) _), by rw [hb]; exact fun _ b hb => hun b (by rw [ownBlock_sl]; exact hb), _, World.drewN_drewN _ _ _⟩
     obtain ⟨p, hpp⟩ : ∃ p, (recL g N).length = p := ⟨_, rfl⟩
     obtain ⟨m, hm⟩ : ∃ m, g.all.length = m := ⟨_, rfl⟩
     obtain ⟨D, hD⟩ : ∃ D, N - g.first = D := ⟨_, rfl⟩
     rw [hpp] at HY hp
     rw [hm] at c4 hlt
     rw [hD] at hp hlt
     have w1 : IntKind.i64.wrap ((N : Int) - (g.first : Int)) = (D : Int) := by rw [IntWalk.i64_in _ (by omega)]; omega
     have e1 : decide (N < g.first) = false := by simp; omega
     have e2 : decide (g.next ≤ N) = false := by simp; omega
     clear hM hC hk hb hno hget hg hrd hu hun hm hD hpp hfn hnl
     go_enter Tryz.func35, Tryz.ntmps35
     go_wp2_with fail
     go_at_call 31
     refine (H0.out).mono ?_
     rintro e w1 ⟨rfl, rfl⟩
     go_wp2_with fail
     go_at_call 32
     refine (H2.out).mono ?_
     rintro e w1 ⟨rfl, i, rfl⟩
     have hbq := below_dn (Below.refl w.heap.size w) i
     have c4 := cell_below c4 hbq
     have hp := cell_below hp hbq
     have hHY := HY.out i
     obtain ⟨wq, hwq⟩ : ∃ wq, w.drewN i = wq := ⟨_, rfl⟩
     rw [hwq] at hbq c4 hp hHY ⊢
     have HBQ := Lib.hid hbq
     have HYQ := Lib.hid hHY
     clear hwq hbq hHY
     go_wp2_with fail
     go_quiet ((go_at_call 31; exact Calls.quiet_of_same (H1.out _ (below_dn HBQ.out _))))
     go_wp2
     go_ret2
     exact HYQ.out _
def RFromPost (w : World) (g : LG) (n most : Int) (e : Ending) (w' : World) : Prop :=
 ∃ a cap, e = .returned (.tuple #[.slice a (if mayL g n then fromL g n most else []).length cap, .int .i64 (if mayL g n then 0 else 8)]) ∧ Rd88 w' a (if mayL g n then fromL g n most else []).length cap (if mayL g n then fromL g n most else []) ∧ Below w.heap.size w w'
set_option maxHeartbeats 8000000 in
theorem rfromL_any (h : RgG w l c S g) (hk : LOk s g) (n most : Int) (_hn0 : -9223372036854775808 ≤ n) (_hn1 : n ≤ 9223372036854775807) :
 Calls Tryz.prog 45 #[.pointer (some ⟨l, 0, none⟩), .int .i64 n, .int .i64 most] w (RFromPost w g n most) := by
 have hno : Hid (mayL g n = false → ∀ i, RFromPost w g n most (.returned (.tuple #[.slice none 0 0, .int .i64 8])) (w.drewN i)) := fun hb i =>
  ⟨none, 0, by rw [hb]; rfl, by rw [hb]; exact ⟨rfl, [], Rd.nil _ _, fun i l h => by simp at h⟩, below_dn (Below.refl _ _) i⟩
 have HS : Hid (∀ W, Below w.heap.size w W → Calls Tryz.prog 33 #[.pointer (some ⟨l, 0, none⟩)] W fun e w' => e = .returned (.int .i64 (g.safe : Nat)) ∧ ∃ n, w' = W.drewN n) := fun W hW => RgG.safe (RgS.below h hW) hk
 obtain ⟨nv, av, us, hM, hC, _⟩ := h
 have H0 := Lib.hid (rfirst_any hM g.nums0)
 have H1 : Hid (∀ W, Below w.heap.size w W → Calls Tryz.prog 31 #[.pointer (some ⟨l, 0, none⟩)] W fun e w' => e = .returned (.int .i64 (g.first : Nat)) ∧ w' = W) := fun W hW =>
  (rfirst_any (hM.new hW) g.nums0).mono fun e w' hh => ⟨hh.1, hh.2.symm⟩
 have hsl := hk.safe_lt
 have hnl := hk.next_le
 by_cases hlo : n < (g.first : Int)
 · have hb : mayL g n = false := by unfold mayL; simp; omega
   have HNO := Lib.hid (hno.out hb)
   clear hM hC hk hb hno hnl hsl
   go_enter Tryz.func45, Tryz.ntmps45
   go_wp2_with fail
   go_at_call 31
   refine (H0.out).mono ?_
   rintro e w1 ⟨rfl, rfl⟩
   go_wp2_with fail
   go_ret2
   exact HNO.out 0
 · by_cases hhi : (g.safe : Int) + 1 < n
   · have hb : mayL g n = false := by unfold mayL; simp; omega
     have HNO := Lib.hid (hno.out hb)
     have w1 : IntKind.i64.wrap ((g.safe : Int) + 1) = (g.safe : Int) + 1 := IntWalk.i64_in _ (by omega)
     clear hM hC hk hb hno hnl hsl
     go_enter Tryz.func45, Tryz.ntmps45
     go_wp2_with fail
     go_at_call 31
     refine (H0.out).mono ?_
     rintro e w1 ⟨rfl, rfl⟩
     go_wp2_with fail
     go_at_call 33
     refine (HS.out _ (Below.refl _ _)).mono ?_
     rintro e w1 ⟨rfl, i, rfl⟩
     go_wp2_with fail
     go_ret2
     exact HNO.out i
   · have hb : mayL g n = true := by unfold mayL; simp; omega
     obtain ⟨N, rfl⟩ : ∃ N : Nat, n = (N : Int) := ⟨n.toNat, by omega⟩
     have h3 : g.first ≤ N := by omega
     obtain ⟨f1, f2, f3, f4⟩ := fromL_take (most := most) hk h3
     obtain ⟨f2a, _⟩ := f2 (by omega)
     have hal := hk.all_len
     obtain ⟨M, hMM⟩ : ∃ M, manyL g N most = M := ⟨_, rfl⟩
     obtain ⟨D, hD⟩ : ∃ D, N - g.first = D := ⟨_, rfl⟩
     rw [hMM] at f1 f2a f3 f4
     rw [hD] at f1 f4
     have hDM : D + M ≤ g.all.length := by omega
     have hM' := hM
     have hy : Hid (∀ v W, W.ownsRow w.heap.size 24 1 v M ((us.drop D).take M) → Below w.heap.size w W → ∃ a cap, v = .slice a M cap ∧ RFromPost w g N most (.returned (.tuple #[.slice a M cap, .int .i64 0])) W) := fun v W k1 k2 => by
      obtain ⟨a, cap, hv, hr⟩ := (hM'.new k2).rows k1 hDM
      have hl : ((g.all.drop D).take M).length = M := by rw [List.length_take, List.length_drop]; omega
      refine ⟨a, cap, hv, a, cap, ?_, ?_, k2⟩
      · rw [hb, if_pos rfl, if_pos rfl, f1, hl]
      · rw [hb, if_pos rfl, f1, hl]; exact hr
     have HCELL : Hid (∀ k, k < M → ∃ r off cap a pl ca, av = .slice (some ⟨r, off, none⟩) g.all.length cap ∧ us[D + k]? = some (.slice a pl ca) ∧ ∀ W, Below w.heap.size w W → W.cell? ⟨l, 4, none⟩ = some av ∧ W.cell? ⟨r, off + (D + k), none⟩ = some (.slice a pl ca)) := fun k hkM => by
      obtain ⟨_, _, hr⟩ := f4 k hkM
      rw [List.getElem?_drop] at hr
      obtain ⟨r, off, cap, a, ca, hav, hp, _, hu⟩ := hM.recc hr
      exact ⟨r, off, cap, a, _, ca, hav, hu, fun W hW => ⟨(hM.new hW).cells.2.2.2.2.1, cell_below hp hW⟩⟩
     have HULEN : Hid (us.length = g.all.length) := hM.each.1
     have F3 := Lib.hid f3
     have F4 : Hid (∀ k, k < M → (k : Int) < most ∧ k + N ≤ g.safe) := fun k hkM => ⟨(f4 k hkM).1, (f4 k hkM).2.1⟩
     obtain ⟨sa, hsa⟩ : ∃ sa, g.safe = sa := ⟨_, rfl⟩
     obtain ⟨nx, hnx⟩ : ∃ nx, g.next = nx := ⟨_, rfl⟩
     obtain ⟨fi, hfi⟩ : ∃ fi, g.first = fi := ⟨_, rfl⟩
     obtain ⟨al, hall⟩ : ∃ al, g.all.length = al := ⟨_, rfl⟩
     rw [hsa] at hhi hsl f2a F3 F4 HS
     rw [hnx] at hsl hnl hal
     rw [hfi] at h3 hlo hal hD H1 H0
     rw [hall] at hal hDM HCELL HULEN
     have e1 : decide (N < fi) = false := by simp; omega
     have e2 : decide ((sa : Int) + 1 < (N : Int)) = false := by simp; omega
     have w1 : IntKind.i64.wrap ((sa : Int) + 1) = (sa : Int) + 1 := IntWalk.i64_in _ (by omega)
     have HALN : Hid (al ≤ 100349524) := by show _ ≤ _; omega
     clear hM hM' hC hk hno hb f1 f2 f3 f4 hMM hsa hnx hfi hall
     go_enter Tryz.func45, Tryz.ntmps45
     go_wp2_with fail
     go_at_call 31
     refine (H0.out).mono ?_
     rintro e w1 ⟨rfl, rfl⟩
     go_wp2_with fail
     go_at_call 33
     refine (HS.out _ (Below.refl _ _)).mono ?_
     rintro e w1 ⟨rfl, i, rfl⟩
     go_wp2_with fail
     clear w1 e1 e2
     go_loopw [8, 9] (fun v nv wr => ∃ k : Nat, k ≤ M ∧ nv = .int .i64 ((N + k : Nat) : Int) ∧ Hid (wr.ownsRow w.heap.size 24 1 v k ((us.drop D).take k)) ∧ Hid (Below w.heap.size w wr)) (fun _ nv _ => M + N - (intOf nv).toNat)
     case atStart => exact ⟨0, Nat.zero_le _, rfl, World.ownsRow_nil _ _ _ _, below_dn (Below.refl _ _) i⟩
     case round =>
      obtain ⟨k, hkM, rfl, HOWN, HBW⟩ := hrel
      obtain ⟨av', cv', hav', _⟩ := Rd.of_own HOWN.out
      subst hav'
      have HSF := Lib.hid (HS.out wr HBW.out)
      by_cases hlt : k < M
      · obtain ⟨g1, g2⟩ := F4.out k hlt
        obtain ⟨r, off, cap, a, pl, ca, rfl, hu, hcl⟩ := HCELL.out k hlt
        have HCL := Lib.hid hcl
        have HU := Lib.hid hu
        have d1 : decide (N + k ≤ sa) = true := by simp; omega
        have d1' : ((N + k : Nat) : Int) ≤ (sa : Int) := by omega
        have dk : D + k < al := by omega
        have w2 : IntKind.i64.wrap (((N + k : Nat) : Int) - (fi : Int)) = ((D + k : Nat) : Int) := by rw [IntWalk.i64_in _ (by have := HALN.out; omega)]; omega
        obtain ⟨NK, hNK⟩ : ∃ NK, N + k = NK := ⟨_, rfl⟩
        obtain ⟨DK, hDK⟩ : ∃ DK, D + k = DK := ⟨_, rfl⟩
        rw [hNK] at d1 d1' w2 ⊢
        rw [hDK] at dk w2 HCL HU
        have HNK := Lib.hid hNK
        have HDK := Lib.hid hDK
        have dk' : (DK : Int) < (al : Int) := by omega
        clear hNK hDK hu hcl g2
        go_wp2_with fail
        go_at_call 33
        refine (HSF.out).mono ?_
        rintro e w1 ⟨rfl, j, rfl⟩
        have hbY := below_dn HBW.out j
        have hownY := ownsRow_below HOWN.out (Nat.le_refl _) (below_dn (Below.refl wr.heap.size wr) j)
        obtain ⟨Y, hY⟩ : ∃ Y, wr.drewN j = Y := ⟨_, rfl⟩
        rw [hY] at hbY hownY ⊢
        have HBY := Lib.hid hbY
        have HOY := Lib.hid hownY
        obtain ⟨c4, hp⟩ := HCL.out Y hbY
        clear hY hbY hownY
        go_wp2_with fail
        refine wp_region_ht 13 (fun W => W.cell? ⟨l, 4, none⟩ = some (.slice (some ⟨r, off, none⟩) al cap) ∧ W.cell? ⟨r, off + DK, none⟩ = some (.slice a pl ca)) (by kernel_rfl) (by kernel_rfl) ?_ (fun hHeld => ?_)
        · exact ⟨c4, hp⟩
        try simp only [Act.put, List.setIfInBounds_toArray, List.set_cons_zero, List.set_cons_succ]
        refine wpHT_takeD (i := 0) (d := 34) (v := ?_) (by kernel_rfl) rfl rfl (by decide) (by kernel_rfl) (by kernel_rfl) (fun _ _ _ h => h) (Or.inl ⟨by kernel_rfl, ?_⟩) (by assumption) ?_
        rotate_left
        · intro w hSw; (try dsimp only at hSw); go_simp; (try with_reducible rfl)
        try simp only [Act.put, List.setIfInBounds_toArray, List.set_cons_zero, List.set_cons_succ]
        refine wpHT_takeD (i := 1) (d := 35) (v := ?_) (by kernel_rfl) rfl rfl (by decide) (by kernel_rfl) (by kernel_rfl) (fun _ _ _ h => h) (Or.inl ⟨by kernel_rfl, ?_⟩) (by assumption) ?_
        rotate_left
        · intro w hSw; (try dsimp only at hSw); go_simp; (try with_reducible rfl)
        try simp only [Act.put, List.setIfInBounds_toArray, List.set_cons_zero, List.set_cons_succ]
        refine wpHT_takeD (i := 2) (d := 36) (v := ?_) (by kernel_rfl) rfl rfl (by decide) (by kernel_rfl) (by kernel_rfl) (fun _ _ _ h => h) (Or.inl ⟨by kernel_rfl, ?_⟩) (by assumption) ?_
        rotate_left
        · intro w hSw; (try dsimp only at hSw); go_simp; (try with_reducible rfl)
        try simp only [Act.put, List.setIfInBounds_toArray, List.set_cons_zero, List.set_cons_succ]
        refine wpHT_takeD (i := 3) (d := 37) (v := ?_) (by kernel_rfl) rfl rfl (by decide) (by kernel_rfl) (by kernel_rfl) (fun _ _ _ h => h) (Or.inl ⟨by kernel_rfl, ?_⟩) (by assumption) ?_
        rotate_left
        · intro w hSw; (try dsimp only at hSw); go_simp; (try with_reducible rfl)
        try simp only [Act.put, List.setIfInBounds_toArray, List.set_cons_zero, List.set_cons_succ]
        refine wpHT_takeD (i := 4) (d := 38) (v := ?_) (by kernel_rfl) rfl rfl (by decide) (by kernel_rfl) (by kernel_rfl) (fun _ _ _ h => h) (Or.inl ⟨by kernel_rfl, ?_⟩) (by assumption) ?_
        rotate_left
        · intro w hSw; (try dsimp only at hSw); go_simp; (try with_reducible rfl)
        try simp only [Act.put, List.setIfInBounds_toArray, List.set_cons_zero, List.set_cons_succ]
        refine wpHT_takeD (i := 5) (d := 39) (v := ?_) (by kernel_rfl) rfl rfl (by decide) (by kernel_rfl) (by kernel_rfl) (fun _ _ _ h => h) (Or.inl ⟨by kernel_rfl, ?_⟩) (by assumption) ?_
        rotate_left
        · intro w hSw; (try dsimp only at hSw); go_simp; (try with_reducible rfl)
        try simp only [Act.put, List.setIfInBounds_toArray, List.set_cons_zero, List.set_cons_succ]
        refine wpHT_takeD (i := 6) (d := 40) (v := ?_) (by kernel_rfl) rfl rfl (by decide) (by kernel_rfl) (by kernel_rfl) (fun _ _ _ h => h) (Or.inl ⟨by kernel_rfl, ?_⟩) (by assumption) ?_
        rotate_left
        · intro w hSw; (try dsimp only at hSw); go_simp; (try with_reducible rfl)
        try simp only [Act.put, List.setIfInBounds_toArray, List.set_cons_zero, List.set_cons_succ]
        refine wpHT_one (i := 7) (by kernel_rfl) rfl (by decide) (fun K hK => ?_)
        go_simp
        go_at_call 31
        refine (H1.out _ HBY.out.drew).mono ?_
        rintro e Y1 ⟨rfl, rfl⟩
        refine hK.out _ _ ?_ (fun hHeld => ?_)
        · exact ⟨c4, hp⟩
        clear hK K
        try simp only [Act.put, List.setIfInBounds_toArray, List.set_cons_zero, List.set_cons_succ]
        refine wpHT_takeD (i := 8) (d := 42) (v := ?_) (by kernel_rfl) rfl rfl (by decide) (by kernel_rfl) (by kernel_rfl) (fun _ _ _ h => h) (Or.inl ⟨by kernel_rfl, ?_⟩) (by assumption) ?_
        rotate_left
        · intro w hSw; (try dsimp only at hSw); go_simp; (try with_reducible rfl)
        try simp only [Act.put, List.setIfInBounds_toArray, List.set_cons_zero, List.set_cons_succ]
        refine wpHT_takeD (i := 9) (d := 43) (v := ?_) (by kernel_rfl) rfl rfl (by decide) (by kernel_rfl) (by kernel_rfl) (fun _ _ _ h => h) (Or.inl ⟨by kernel_rfl, ?_⟩) (by assumption) ?_
        rotate_left
        · intro w hSw; (try dsimp only at hSw); go_simp; (try with_reducible rfl)
        try simp only [Act.put, List.setIfInBounds_toArray, List.set_cons_zero, List.set_cons_succ]
        refine wpHT_takeD (i := 10) (d := 44) (v := ?_) (by kernel_rfl) rfl rfl (by decide) (by kernel_rfl) (by kernel_rfl) (fun _ _ _ h => h) (Or.inl ⟨by kernel_rfl, ?_⟩) (by assumption) ?_
        rotate_left
        · intro w hSw; (try dsimp only at hSw); go_simp; (try with_reducible rfl)
        try simp only [Act.put, List.setIfInBounds_toArray, List.set_cons_zero, List.set_cons_succ]
        refine wpHT_one (i := 11) (by kernel_rfl) rfl (by decide) (fun K hK => ?_)
        go_simp
        have c4 := cell_alloc_keep (w := Y.drew) (o := .cells #[.slice a pl ca] 24) c4
        have hp := cell_alloc_keep (w := Y.drew) (o := .cells #[.slice a pl ca] 24) hp
        refine hK.out _ _ ?_ (fun hHeld => ?_)
        · exact ⟨c4, hp⟩
        clear hK K
        try simp only [Act.put, List.setIfInBounds_toArray, List.set_cons_zero, List.set_cons_succ]
        refine wpHT_one (i := 12) (by kernel_rfl) rfl (by decide) (fun K hK => ?_)
        refine step_app2 S88 rfl _ _ rfl w.heap.size rfl ((ownsRow_below HOY.out (Nat.le_refl _) (Below.refl _ Y).drew).alloc _) rfl (Rd.one _ _ _) (by simp [Value.oneCell']) (by have := HALN.out; omega) (by have := HALN.out; unfold maxLen; omega) (HBY.out.drew.alloc HBY.out.size _).size ?_
        intro v6 Y6 ho6 hg6 hl6
        have hb6 : Below w.heap.size w Y6 := (HBY.out.drew.alloc HBY.out.size _).grown hg6 (HBY.out.drew.alloc HBY.out.size _).size (fun q hq => (World.ownsRow.lt HOY.out q hq).1)
        obtain ⟨c4, hp⟩ := HCL.out Y6 hb6
        have HO6 := Lib.hid ho6
        have HB6 := Lib.hid hb6
        clear ho6 hg6 hl6 hb6
        refine hK.out _ _ ?_ (fun hHeld => ?_)
        · exact ⟨c4, hp⟩
        clear hK K
        try simp only [Act.put, List.setIfInBounds_toArray, List.set_cons_zero, List.set_cons_succ]
        refine wpHT_done (by kernel_rfl) ?_
        simp only [List.drop_succ_cons, List.drop_zero]
        clear hHeld
        have HO7 : Hid (Y6.ownsRow w.heap.size 24 1 v6 (k + 1) ((us.drop D).take (k + 1))) := by
         have h := HO6.out
         have hs : ((us.drop D))[k]? = some (.slice a pl ca) := by rw [List.getElem?_drop, HDK.out]; exact HU.out
         rw [← take_snocV hs] at h
         exact h
        clear c4 hp HO6
        go_wp2
        go_roundw
        case rel => exact ⟨k + 1, by omega, by rw [← HNK.out]; go_num, HO7.out, HB6.out⟩
        case measure => have := HNK.out; simp [intOf]; omega
      · obtain rfl : k = M := by omega
        obtain ⟨a9, c9, e9, hfin⟩ := hy.out _ _ HOWN.out HBW.out
        by_cases hs : N + k ≤ sa
        · have hms : ¬ ((k : Int) < most) := fun h => by have := F3.out k h (by omega); omega
          have d1' : ((N + k : Nat) : Int) ≤ (sa : Int) := by omega
          have d1 : decide (N + k ≤ sa) = true := by simp; omega
          have HF : Hid (∀ j, RFromPost w g N most (.returned (.tuple #[.slice av' k cv', .int .i64 0])) (wr.drewN j)) := fun j => by
           obtain ⟨a9, c9, e9, hfin⟩ := hy.out _ _ (ownsRow_below HOWN.out (Nat.le_refl _) (below_dn (Below.refl wr.heap.size wr) j)) (below_dn HBW.out j)
           cases e9
           exact hfin
          obtain ⟨NK, hNK⟩ : ∃ NK, N + k = NK := ⟨_, rfl⟩
          rw [hNK] at d1 d1' ⊢
          clear hNK e9 hfin
          go_wp2_with fail
          go_at_call 33
          refine (HSF.out).mono ?_
          rintro e w1 ⟨rfl, j, rfl⟩
          go_wp2_with fail
          go_ret2
          exact HF.out j
        · have d1' : ¬ ((N + k : Nat) : Int) ≤ (sa : Int) := by omega
          have d1 : decide (N + k ≤ sa) = false := by simp; omega
          have HF : Hid (∀ j, RFromPost w g N most (.returned (.tuple #[.slice av' k cv', .int .i64 0])) (wr.drewN j)) := fun j => by
           obtain ⟨a9, c9, e9, hfin⟩ := hy.out _ _ (ownsRow_below HOWN.out (Nat.le_refl _) (below_dn (Below.refl wr.heap.size wr) j)) (below_dn HBW.out j)
           cases e9
           exact hfin
          obtain ⟨NK, hNK⟩ : ∃ NK, N + k = NK := ⟨_, rfl⟩
          rw [hNK] at d1 d1' ⊢
          clear hNK e9 hfin
          go_wp2_with fail
          go_at_call 33
          refine (HSF.out).mono ?_
          rintro e w1 ⟨rfl, j, rfl⟩
          go_wp2_with fail
          go_ret2
          exact HF.out j
end
end Go.Proofs.YtjjcilinghgphaaGreat

/-! ### The document's log: Open. -/
namespace Go.Proofs.YtjjcilinghgphaaGreat
open Go.RowKit Go.Maps Go.Sort
set_option maxRecDepth 100000
attribute [local go_sem] bs_size bs_toList
def numsF (dir : List UInt8) (fl : List Fl) : List Nat := fl.map fun f => numS dir f.nm
def ROpenPost (w : World) (c : Nat) (S : Nat → Prop) (r : OR) (e : Ending) (w' : World) : Prop :=
 match r.g with
 | none => e = .returned (.tuple #[.pointer none, .int .i64 r.e]) ∧ RDone w c S r.s w'
 | some g => ∃ l, e = .returned (.tuple #[.pointer (some ⟨l, 0, none⟩), .int .i64 r.e]) ∧ RWS w' c l (Sx S w w') r.s g ∧ Fr S w w'
theorem RgM.start (w : World) (c : Nat) (dir : List UInt8) (room : Int) : RgM (w.alloc (.cells #[.pointer (some ⟨c, 0, none⟩), .string (bs dir), .int .i64 room, .slice none 0 0, .slice none 0 0, .int .i64 0] 102)) w.heap.size c dir room 0 (.slice none 0 0) (.slice none 0 0) [] [] [] :=
 ⟨heap_alloc_new w _, OwnO.nil _ _, OwnO.nil _ _, ⟨rfl, fun i u r h => (by simp at h)⟩⟩
theorem RAt.start {w W : World} {c : Nat} {S : Nat → Prop} {s : DS} (h : Rf w c S s) (hb : Below w.heap.size w W) (dir : List UInt8) (room : Int) :
 RAt w S c W.heap.size S (fun k => k = W.heap.size) s dir room 0 [] [] (W.alloc (.cells #[.pointer (some ⟨c, 0, none⟩), .string (bs dir), .int .i64 room, .slice none 0 0, .slice none 0 0, .int .i64 0] 102)) := by
 have hb2 := hb.alloc hb.size (.cells #[.pointer (some ⟨c, 0, none⟩), .string (bs dir), .int .i64 room, .slice none 0 0, .slice none 0 0, .int .i64 0] 102)
 have hs := hb.size
 have hsz : (W.alloc (.cells #[.pointer (some ⟨c, 0, none⟩), .string (bs dir), .int .i64 room, .slice none 0 0, .slice none 0 0, .int .i64 0] 102)).heap.size = W.heap.size + 1 := by simp
 refine ⟨h.below hb2, ⟨_, _, _, RgM.start W c dir room, ⟨rfl, fun k hk => (by simp [Value.ownBlock] at hk), fun k hk => (by simp [Value.ownBlock] at hk), fun u hu => (by cases hu)⟩, fun k hk => by rw [hsz]; omega⟩, fun k hk e => ?_, fun k hk => .inl hk, fun k hk => .inr ⟨by omega, by rw [hsz]; omega⟩, Fr.of_new hb2, h.lt⟩
 have := h.lt k hk
 omega
theorem allR_bd {dir : List UInt8} : ∀ {l : List Fl}, (∀ f ∈ l, f.dt.length ≤ 4194304) → (allR (l.map (sgOf dir))).length ≤ l.length * 349525
 | [], _ => by simp [allR]
 | f :: r, h => by
  have h1 := allR_bd (dir := dir) (l := r) fun x hx => h x (List.mem_cons_of_mem _ hx)
  have h2 := h f (by simp)
  have h3 := joinF_ge (scan f.dt).1
  rw [joinF_scan, List.length_take] at h3
  have h4 : allR ((f :: r).map (sgOf dir)) = (scan f.dt).1 ++ allR (r.map (sgOf dir)) := by simp [allR, sgOf]
  rw [h4, List.length_append, List.length_cons]
  omega
theorem allR_snoc {dir : List UInt8} (l : List Fl) (f : Fl) : allR ((l ++ [f]).map (sgOf dir)) = allR (l.map (sgOf dir)) ++ (scan f.dt).1 := by simp [allR, sgOf]
theorem joined_nums (dir : List UInt8) (room : Int) (pre : List Fl) (f : Fl) : (joinedG dir room pre f).nums = numsF dir (pre ++ [f]) ∧ (joinedG dir room pre f).all = allR ((pre ++ [f]).map (sgOf dir)) := by
 constructor
 · simp [LG.nums, LG.segs, joinedG, numsF, sgOf]
 · simp [LG.all, LG.segs, joinedG]
structure ROp1 (w : World) (S : Nat → Prop) (c l : Nat) (s : DS) (dir : List UInt8) (room : Int) (an : Option Addr) (n cn : Nat) (k : Nat) (Sl : Nat → Prop) (W : World) : Prop where
 la : RAt w S c l S Sl s dir room 0 (numsF dir (segF dir (s.fs.take k))) [] W
 nm : Rd W an n cn 1 (s.fs.map fun f => Value.string (bs f.nm))
 nb : BlkIn an n fun b => ¬ Sl b ∧ b < W.heap.size
theorem ROp1.name {w : World} {S : Nat → Prop} {c l : Nat} {s : DS} {dir : List UInt8} {room : Int} {an : Option Addr} {n cn : Nat} {k : Nat} {Sl : Nat → Prop} {W : World} (h : ROp1 w S c l s dir room an n cn k Sl W) {f : Fl} (hf : s.fs[k]? = some f) (hn : n = s.fs.length) :
 ∃ b off, an = some ⟨b, off, none⟩ ∧ W.cell? ⟨b, off + k, none⟩ = some (.string (bs f.nm)) := by
 have hk := (List.getElem?_eq_some_iff.1 hf).1
 obtain ⟨b, off, ha, _, hc⟩ := h.nm.at (by omega)
 refine ⟨b, off, ha, hc k _ ?_⟩
 rw [List.getElem?_map, hf]; rfl
structure ROp2 (w : World) (S : Nat → Prop) (c l : Nat) (s : DS) (dir : List UInt8) (room : Int) (fl : List Fl) (k : Nat) (Sl : Nat → Prop) (W : World) : Prop where
 la : RAt w S c l S Sl s dir room 0 (numsF dir fl) (allR ((fl.take k).map (sgOf dir))) W
 lk : linksB dir (fl.take (k + 1)) = true
theorem RecsAt.one {w : World} {us : List Value} {rs : List (List UInt8)} (h : RecsAt w us rs) : ∀ u ∈ us, u.oneCell' = true := by
 intro u hu
 obtain ⟨i, hi⟩ := List.getElem?_of_mem hu
 have hlt := (List.getElem?_eq_some_iff.1 hi).1
 obtain ⟨a, cap, rfl, _⟩ := (h.2 i u _ hi (List.getElem?_eq_getElem (by rw [← h.1]; exact hlt))).rd
 rfl
/-- The last step of Open: Sync's answer. -/
theorem ropen_fin {w wx W : World} {c l : Nat} {S : Nat → Prop} {s : DS} {dir : List UInt8} {room : Int} {pre : List Fl} {f : Fl} (ht : ∀ k, S k → k < w.heap.size) (hf : Fr S w wx) (hm : (mendS s f).2 = 0)
 (ho : openL s dir room = openM s dir room pre f) (hr : RWS W c l (Sx (Sx S w wx) wx W) (syncL (mendS s f).1 (joinedG dir room pre f)).s (syncL (mendS s f).1 (joinedG dir room pre f)).g) (hg : Fr (Sx S w wx) wx W) :
 ((syncL (mendS s f).1 (joinedG dir room pre f)).e = 0 → ROpenPost w c S (openL s dir room) (.returned (.tuple #[.pointer (some ⟨l, 0, none⟩), .int .i64 0])) W) ∧
 ((syncL (mendS s f).1 (joinedG dir room pre f)).e ≠ 0 → ROpenPost w c S (openL s dir room) (.returned (.tuple #[.pointer none, .int .i64 (syncL (mendS s f).1 (joinedG dir room pre f)).e])) W) := by
 obtain ⟨q1, q2⟩ := RWS.trans hf hr hg ht
 rw [ho]
 unfold openM
 rw [if_neg (fun h => h hm)]
 refine ⟨fun h0 => ?_, fun h0 => ?_⟩
 · rw [if_neg (fun h => h h0)]
   exact ⟨l, rfl, q1, q2⟩
 · rw [if_pos h0]
   exact ⟨rfl, q1.rf, q2⟩
set_option maxHeartbeats 8000000 in
theorem ropen_any (c : Nat) (S : Nat → Prop) (B : Int) (hB : B < 999999999990) (s : DS) (hok : DOk B s) (dir : List UInt8) (hdir : dir.length ≤ 1000000) (room : Int) (w : World) (h : Rf w c S s) :
 Calls Tryz.prog 28 #[.pointer (some ⟨c, 0, none⟩), .string (bs dir), .int .i64 room] w (ROpenPost w c S (openL s dir room)) := by
 have HD := Lib.hid h
 have HOK := Lib.hid hok
 obtain ⟨_, _, _, c1, _, _, _⟩ := h.row
 have hbad : Hid (openA dir room s ≠ 0 → ∀ W, Below w.heap.size w W → ROpenPost w c S (openL s dir room) (.returned (.tuple #[.pointer none, .int .i64 (openA dir room s)])) W) := fun hn W hW => by
  rw [openL_bad hn]
  exact ⟨rfl, (h.below hW).grow (fun k hk => .inl hk) (Sx.lt hW.size h.lt), Fr.of_new hW⟩
 have HDIR := Lib.hid hdir
 obtain ⟨dl, hdl⟩ : ∃ dl, dir.length = dl := ⟨_, rfl⟩
 have HDLE := Lib.hid hdl
 clear hok hdir h
 by_cases hdb : dir.length < 1 ∨ 11 < dir.length
 · have hA : openA dir room s = 10 := by unfold openA; rw [if_pos hdb]
   have HG := Lib.hid (hbad.out (by rw [hA]; decide) w (Below.refl _ _))
   rw [hA] at HG
   rw [hdl] at hdb
   clear hbad hA c1
   rcases hdb with hdb | hdb
   · have h2 : (dl : Int) < 1 := by omega
     have h3 : decide (dl < 1) = true := decide_eq_true (by omega)
     go_enter Tryz.func28, Tryz.ntmps28
     go_wp2_with fail
     go_ret2
     exact HG.out
   · have h2 : ¬ (dl : Int) < 1 := by omega
     have h3 : decide (dl < 1) = false := decide_eq_false (by omega)
     have h4 : (11 : Int) < (dl : Int) := by omega
     go_enter Tryz.func28, Tryz.ntmps28
     go_wp2_with fail
     go_ret2
     exact HG.out
 have hd1 : 1 ≤ dir.length := by omega
 have hd2 : dir.length ≤ 11 := by omega
 have HDL : Hid (1 ≤ dir.length ∧ dir.length ≤ 11) := ⟨hd1, hd2⟩
 have g1 : ¬ (dl : Int) < 1 := by omega
 have g2 : decide (dl < 1) = false := decide_eq_false (by omega)
 have g3 : ¬ (11 : Int) < (dl : Int) := by omega
 by_cases hrb : room < 64 ∨ 262144 < room
 · have hA : openA dir room s = 1 := by unfold openA; rw [if_neg hdb, if_pos hrb]
   have HG := Lib.hid (hbad.out (by rw [hA]; decide) w (Below.refl _ _))
   rw [hA] at HG
   clear hbad hA c1 hdb hd1 hd2
   rcases hrb with hrb | hrb
   · go_enter Tryz.func28, Tryz.ntmps28
     go_wp2_with fail
     go_ret2
     exact HG.out
   · have hr2 : ¬ room < 64 := by omega
     go_enter Tryz.func28, Tryz.ntmps28
     go_wp2_with fail
     go_ret2
     exact HG.out
 have hr1 : ¬ room < 64 := by omega
 have hr2 : ¬ 262144 < room := by omega
 cases hdn : s.dn with
 | true =>
  have hA : openA dir room s = 12 := by unfold openA; rw [if_neg hdb, if_neg hrb, hdn]; rfl
  have HG := Lib.hid (hbad.out (by rw [hA]; decide) w (Below.refl _ _))
  rw [hA] at HG
  rw [hdn] at c1
  clear hbad hA hdb hrb hdn hd1 hd2
  go_enter Tryz.func28, Tryz.ntmps28
  go_wp2_with fail
  go_ret2
  exact HG.out
 | false =>
  have HA0 := Lib.hid (openA_zero (room := room) hd1 hd2 (by omega) (by omega) hdn)
  have HDR : Hid (64 ≤ room ∧ room ≤ 262144) := by exact ⟨by omega, by omega⟩
  rw [hdn] at c1
  have hst := RAt.start HD.out (Below.refl w.heap.size w) dir room
  have hcl : (w.alloc (.cells #[.pointer (some ⟨c, 0, none⟩), .string (bs dir), .int .i64 room, .slice none 0 0, .slice none 0 0, .int .i64 0] 102)).heap.size = w.heap.size + 1 := by simp
  obtain ⟨W, hW⟩ : ∃ W, w.alloc (.cells #[.pointer (some ⟨c, 0, none⟩), .string (bs dir), .int .i64 room, .slice none 0 0, .slice none 0 0, .int .i64 0] 102) = W := ⟨_, rfl⟩
  rw [hW] at hst hcl
  obtain ⟨l, hl⟩ : ∃ l, w.heap.size = l := ⟨_, rfl⟩
  rw [hl] at hst hcl
  have HST := Lib.hid hst
  have HCL := Lib.hid hcl
  clear hbad hdb hrb hdn hst hcl hd1 hd2
  go_enter Tryz.func28, Tryz.ntmps28
  go_wp2_with fail
  go_at_call 61
  clear hW hl c1 g1 g2 g3 hr1 hr2 hdl
  refine (rlist_any c S s HOK.out.len W HST.out.dk).mono ?_
  rintro e W2 ⟨vn, rfl, hown, hbl⟩
  obtain ⟨an, cn, rfl, hrn⟩ := (OwnO.of_own hown).rd
  have hblk := World.ownsRow.lt hown
  have hst2 : ROp1 w S c l s dir room an s.fs.length cn 0 (fun k => k = l) W2 := by
   refine ⟨HST.out.new hbl, hrn, fun h0 b hb => ?_⟩
   have h1 := hblk b (by rw [ownBlock_sl]; exact hb)
   have h2 := HCL.out
   exact ⟨fun e => by omega, h1.2⟩
  obtain ⟨n, hn⟩ : ∃ n, s.fs.length = n := ⟨_, rfl⟩
  rw [hn] at hst2
  have hn64 : n ≤ 64 := by rw [← hn]; exact HOK.out.len
  have HNL := Lib.hid hn.symm
  have HST2 := Lib.hid hst2
  rw [hn]
  clear hown hbl hrn hblk hst2 hn
  go_wp2_with fail
  go_loopw [10, 11] (fun i _ wr => ∃ (k : Nat) (Sl : Nat → Prop), k ≤ n ∧ i = .int .i64 (k : Nat) ∧ Hid (ROp1 w S c l s dir room an n cn k Sl wr)) (fun i _ _ => n - (intOf i).toNat)
  case atStart => exact ⟨0, _, Nat.zero_le _, rfl, HST2.out⟩
  case round =>
   clear HST2 HST HCL
   obtain ⟨k, Sl, hk, rfl, HO⟩ := hrel
   by_cases hlt : k < n
   · obtain ⟨f, hf⟩ : ∃ f, s.fs[k]? = some f := ⟨_, List.getElem?_eq_getElem (by have := HNL.out; omega)⟩
     obtain ⟨b, off, rfl, hc⟩ := HO.out.name hf HNL.out
     have hfl := (HOK.out.each f (List.mem_of_getElem? hf)).2.1
     have HFL := Lib.hid hfl
     have HF := Lib.hid hf
     clear hfl hf
     go_wp2_with fail
     go_at_call 62
     refine (rnumber_any dir f.nm HDIR.out (by have := HFL.out; omega) wr).mono ?_
     rintro e w3 ⟨rfl, rfl⟩
     by_cases h0 : numS dir f.nm = 0
     · rw [h0]
       have hnx : ROp1 w S c l s dir room (some ⟨b, off, none⟩) n cn (k + 1) Sl wr := by
        have h := HO.out
        exact ⟨by rw [segF_next HF.out, if_neg (by omega)]; exact h.la, h.nm, h.nb⟩
       have HNX := Lib.hid hnx
       clear h0 hnx hc
       go_wp2_with fail
       go_roundw
       case rel => exact ⟨k + 1, Sl, by omega, by go_num, HNX.out⟩
       case measure => simp [intOf]; omega
     · have hpos : 0 < numS dir f.nm := by omega
       have HPOS := Lib.hid hpos
       obtain ⟨nv, av, us, hM, hC, hlt2⟩ := HO.out.la.lg
       obtain ⟨an', cn', rfl, _⟩ := hM.hn.rd
       obtain ⟨_, _, _, c3, _, _, _, _, _⟩ := hM.cells
       have hnl64 : (numsF dir (segF dir (s.fs.take k))).length ≤ 64 := by
        have h1 : (segF dir (s.fs.take k)).length ≤ (s.fs.take k).length := List.length_filter_le _ _
        have h2 : (s.fs.take k).length ≤ k := List.length_take_le _ _
        unfold numsF
        rw [List.length_map]; omega
       have hM' := hM
       have hC' := hC
       obtain ⟨nl, hnl⟩ : ∃ nl, (numsF dir (segF dir (s.fs.take k))).length = nl := ⟨_, rfl⟩
       rw [hnl] at c3 hnl64 hM' hC'
       obtain ⟨no, hno⟩ : ∃ no, numS dir f.nm = no := ⟨_, rfl⟩
       rw [hno] at hpos ⊢
       have p1 : (0 : Int) < (no : Int) := by omega
       have p2 : decide (0 < no) = true := decide_eq_true hpos
       have HM := Lib.hid hM'
       have HC := Lib.hid hC'
       have HNLL := Lib.hid hnl
       have HNO := Lib.hid hno
       have HLT2 := Lib.hid hlt2
       have HHN : Hid (OwnO (wr.alloc (.cells #[.int .i64 (no : Int)] 3)) 3 (.slice an' nl cn') nl ((numsF dir (segF dir (s.fs.take k))).map encN)) := by
        have h1 := hM'.hn.new ((Below.refl wr.heap.size wr).alloc (Nat.le_refl _) (.cells #[.int .i64 (no : Int)] 3))
        rw [hnl] at h1
        exact h1
       have c3' := ((hM'.new ((Below.refl wr.heap.size wr).alloc (Nat.le_refl _) (.cells #[.int .i64 (no : Int)] 3))).cells).2.2.2.1
       clear hM hC hlt2 hM' hC' hnl hno hc h0 hpos
       go_wp2_with (at_builtin; refine wpList_appO SIntU rfl (.tmp 67) (.tmp 69) rfl rfl HHN.out rfl (Rd.one _ _ _) ?c1 ?c2 ?c3 ?_)
       case c1 => simp [Value.oneCell']
       case c2 => omega
       case c3 => unfold maxLen; omega
       intro v5 w5 hown hgr hbk
       obtain ⟨a', cap', rfl, _⟩ := hown.rd
       have hpt := HM.out.pushN HC.out HLT2.out ((Below.refl wr.heap.size wr).alloc (Nat.le_refl _) (.cells #[.int .i64 (no : Int)] 3)) hgr (n := no) (by rw [HNLL.out]; exact hown) (hbk.imp id fun e => e.trans (by simp))
       obtain ⟨q1, q2, q3, q4⟩ := hpt
       have P3 := Lib.hid q3
       have P4 := Lib.hid q4
       clear q3 q4 hown hgr hbk c3 c3'
       go_wp2_with fail
       obtain ⟨W6, hW6⟩ : ∃ W6, w5.setCell ⟨l, 3, none⟩ (.slice a' (nl + 1) cap') = W6 := ⟨_, rfl⟩
       rw [hW6] at P3 P4 ⊢
       have hnx : ROp1 w S c l s dir room (some ⟨b, off, none⟩) n cn (k + 1) (Sx Sl wr W6) W6 := by
        have h := HO.out
        refine ⟨?_, h.nm.keep0 P4.out fun h0 b hb => (h.nb h0 b hb).1, fun h0 b hb => ?_⟩
        · have e : numsF dir (segF dir (s.fs.take (k + 1))) = numsF dir (segF dir (s.fs.take k)) ++ [no] := by
           rw [segF_next HF.out, if_pos HPOS.out]
           unfold numsF
           rw [List.map_append, ← HNO.out]; rfl
          rw [e]
          exact h.la.log P3.out P4.out fun k hk => hk
        · obtain ⟨n1, n2⟩ := h.nb h0 b hb
          exact ⟨fun e => e.elim n1 fun e => by omega, Nat.lt_of_lt_of_le n2 P4.out.size⟩
       have HNX := Lib.hid hnx
       clear hnx hW6 q1 q2
       go_roundw
       case rel => exact ⟨k + 1, _, by omega, by go_num, HNX.out⟩
       case measure => simp [intOf]; omega
   · obtain rfl : k = n := by omega
     have hla : RAt w S c l S Sl s dir room 0 (numsF dir (segF dir s.fs)) [] wr := by
      have h := HO.out.la
      rwa [List.take_of_length_le (by rw [HNL.out]; exact Nat.le_refl _)] at h
     have hfb : (segF dir s.fs).length ≤ 64 := by
      have h1 : (segF dir s.fs).length ≤ s.fs.length := List.length_filter_le _ _
      have := HNL.out
      omega
     clear HO
     obtain ⟨fl, hfl⟩ : ∃ fl, segF dir s.fs = fl := ⟨_, rfl⟩
     rw [hfl] at hla hfb
     have HFS := Lib.hid hfl
     have HLA := Lib.hid hla
     obtain ⟨nv, av, us, hM, hC, hlt2⟩ := hla.lg
     obtain ⟨an', cn', rfl, _⟩ := hM.hn.rd
     obtain ⟨_, _, _, c3, _, _, _, _, _⟩ := hM.cells
     rcases List.eq_nil_or_concat fl with rfl | ⟨pre, f, rfl⟩
     · have c3 : wr.cell? ⟨l, 3, none⟩ = some (.slice an' 0 cn') := c3
       have hb1 : Below wr.heap.size wr (wr.alloc (.cells #[.int .i64 1] 3)) := (Below.refl _ _).alloc (Nat.le_refl _) _
       have hown : OwnO (wr.alloc (.cells #[.int .i64 1] 3)) 3 (.slice (some ⟨wr.heap.size, 0, none⟩) 1 1) 1 [.int .i64 1] := OwnO.of_own (World.ownsRow_lit wr #[.int .i64 1] 1 (base := 0) (size := 1) (Nat.zero_le _) (by unfold maxLen; decide) rfl)
       have hs1 : (wr.alloc (.cells #[.int .i64 1] 3)).heap.size = wr.heap.size + 1 := by simp
       obtain ⟨q, hq⟩ : ∃ q, wr.heap.size = q := ⟨_, rfl⟩
       obtain ⟨W1, hW1⟩ : ∃ W1, wr.alloc (.cells #[.int .i64 1] 3) = W1 := ⟨_, rfl⟩
       rw [hq] at hown hs1
       rw [hW1] at hb1 hown hs1
       have hM1 := hM.new hb1
       obtain ⟨_, _, _, d3, _, _, e3, _, _⟩ := hM1.cells
       have d3 : W1.cell? ⟨l, 3, none⟩ = some (.slice an' 0 cn') := d3
       have hM2 := hM1.setN (v := .slice (some ⟨q, 0, none⟩) 1 1) (fs' := [1]) hown
       have hfr : Fr Sl wr (W1.setCell ⟨l, 3, none⟩ (.slice (some ⟨q, 0, none⟩) 1 1)) := (Fr.of_new hb1).setCell (p := ⟨l, 3, none⟩) (fun _ => hC.cl) _
       have hs2 : (W1.setCell ⟨l, 3, none⟩ (.slice (some ⟨q, 0, none⟩) 1 1)).heap.size = q + 1 := by simp [hs1]
       have hrg : RgS (W1.setCell ⟨l, 3, none⟩ (.slice (some ⟨q, 0, none⟩) 1 1)) l c (Sx Sl wr (W1.setCell ⟨l, 3, none⟩ (.slice (some ⟨q, 0, none⟩) 1 1))) dir room 0 [1] [] :=
        ⟨_, _, _, hM2, ⟨.inl hC.cl, fun k hk => .inr (by simp [Value.ownBlock] at hk; omega), fun k hk => .inl (hC.ca k hk), fun u hu k hk => .inl (hC.cu u hu k hk)⟩, Sx.lt hfr.size hlt2⟩
       have HA2 := Lib.hid (HLA.out.log hrg hfr fun k hk => hk)
       have HM2 := Lib.hid hM2
       clear hM hC hlt2 hM1 hM2 hfr hs2 hrg hown hb1 hs1 hla hfl
       go_wp2_with fail
       go_at_call 63
       clear hq hW1 c3 d3 e3
       refine (rlast_any HM2.out (n := 1) rfl (by decide) (by decide) HDL.out.1 HDL.out.2).mono ?_
       rintro e w4 ⟨rfl, hb4⟩
       have HA4 := Lib.hid (HA2.out.new hb4)
       clear hb4
       go_wp2_with fail
       go_at_call 40
       refine (rcreate_any c S B (by omega) s (segN dir 1) (by rw [segN_length]; have := HDL.out; omega) HOK.out w4 HA4.out.dk).mono ?_
       rintro e w5 ⟨rfl, k1, k2⟩
       have hA5 := HA4.out.disk k1 k2
       have hol := openL_new HA0.out HFS.out
       by_cases h0 : (createS s (segN dir 1)).2 = 0
       · have HG : Hid (ROpenPost w c S (openL s dir room) (.returned (.tuple #[.pointer (some ⟨l, 0, none⟩), .int .i64 0])) w5) := by
          rw [hol]
          unfold openN
          rw [if_pos h0]
          obtain ⟨r1, r2⟩ := RAt.fin (g := ⟨dir, room, [], ⟨1, []⟩, 0⟩) hA5
          exact ⟨l, rfl, r1, r2⟩
         rw [h0]
         clear hA5 hol h0 k1 k2
         go_wp2_with fail
         go_ret2
         exact HG.out
       · have HG : Hid (ROpenPost w c S (openL s dir room) (.returned (.tuple #[.pointer none, .int .i64 (createS s (segN dir 1)).2])) w5) := by
          rw [hol]
          unfold openN
          rw [if_neg h0]
          exact ⟨rfl, hA5.done⟩
         have hbE : ((createS s (segN dir 1)).2 != 0) = true := by simpa using h0
         clear hA5 hol h0 k1 k2
         obtain ⟨e, he⟩ : ∃ e, (createS s (segN dir 1)).2 = e := ⟨_, rfl⟩
         rw [he] at HG hbE ⊢
         clear he
         go_wp2_with fail
         go_ret2
         exact HG.out
     · have hcc : pre.concat f = pre ++ [f] := by simp
       have hlk0 : linksB dir ((pre.concat f).take (0 + 1)) = true := by
        rw [hcc]
        cases pre <;> rfl
       have hst : ROp2 w S c l s dir room (pre.concat f) 0 Sl wr := ⟨hla, hlk0⟩
       have hnn : (pre.concat f).length = pre.length + 1 := by simp
       obtain ⟨fl, hfl2⟩ : ∃ fl, pre.concat f = fl := ⟨_, rfl⟩
       rw [hfl2] at hst hnn hfb hfl HFS
       have hnl : (numsF dir (pre.concat f)).length = fl.length := by rw [hfl2]; unfold numsF; rw [List.length_map]
       rw [hnl] at c3
       obtain ⟨nn, hnn2⟩ : ∃ nn, fl.length = nn := ⟨_, rfl⟩
       rw [hnn2] at c3 hfb hnn
       have HCC : Hid (fl = pre ++ [f]) := by show _ = _; rw [← hfl2, hcc]
       have HNN := Lib.hid hnn2
       have HST := Lib.hid hst
       have hnp : 0 < nn := by omega
       have hnz : ((nn : Int) == 0) = false := by simp; omega
       have hnz' : (nn == 0) = false := by simp; omega
       clear hM hC hlt2 hla hcc hlk0 hst hnn hfl2 hnl hnn2 hfl HLA
       go_wp2_with fail
       clear c3 hnz hnz'
       go_loopw [13, 14, 15, 16, 17, 18, 19, 20, 21] (fun wh lo i _ _ _ _ _ _ wr => ∃ (k : Nat) (Sl : Nat → Prop) (wN lN : Nat), k ≤ nn ∧ i = .int .i64 (k : Nat) ∧ wh = .int .i64 (wN : Nat) ∧ lo = .int .i64 (lN : Nat) ∧ Hid (0 < k → ∃ q, fl[k - 1]? = some q ∧ wN = (scan q.dt).2 ∧ lN = q.dt.length) ∧ Hid (ROp2 w S c l s dir room fl k Sl wr)) (fun _ _ i _ _ _ _ _ _ _ => nn - (intOf i).toNat)
       case atStart => exact ⟨0, Sl, 0, 0, Nat.zero_le _, rfl, rfl, rfl, fun h => absurd h (Nat.lt_irrefl 0), HST.out⟩
       case round =>
        clear HST
        obtain ⟨k, Sl, wN, lN, hk, rfl, rfl, rfl, HW, HO⟩ := hrel
        obtain ⟨nv, av, us, hM, hC, hlt2⟩ := HO.out.la.lg
        have hnl : (numsF dir fl).length = nn := by unfold numsF; rw [List.length_map, HNN.out]
        by_cases hlt : k < nn
        · obtain ⟨q, hq⟩ : ∃ q, fl[k]? = some q := ⟨_, List.getElem?_eq_getElem (by have := HNN.out; omega)⟩
          have hqm : q ∈ segF dir s.fs := by rw [HFS.out]; exact List.mem_of_getElem? hq
          obtain ⟨m1, m2⟩ := segF_mem.1 hqm
          have hqg := srt_get HOK.out.srt m1
          have hqdt : q.dt.length ≤ 4194304 := Nat.le_trans (dt_le_tot m1) HOK.out.tot
          have hqnm := (numS_pos m2).1
          have hqno := numS_le dir q.nm
          have hdata : dataS s q.nm = q.dt := by unfold dataS; rw [hqg]; rfl
          have hsle := scan_le q.dt
          have hqsc : (scan q.dt).1.length ≤ 349525 := by
           have h1 := joinF_ge (scan q.dt).1
           rw [joinF_scan, List.length_take] at h1
           omega
          have hal : (allR ((fl.take k).map (sgOf dir))).length ≤ 22369600 := by
           have h1 := allR_bd (dir := dir) (l := fl.take k) fun x hx => by
            have h2 : x ∈ segF dir s.fs := by rw [HFS.out]; exact List.mem_of_mem_take hx
            exact Nat.le_trans (dt_le_tot (segF_mem.1 h2).1) HOK.out.tot
           have h2 : (fl.take k).length ≤ 64 := by rw [List.length_take]; omega
           omega
          obtain ⟨r, off, cap, rfl, hp⟩ := hM.num (i := k) (n := numS dir q.nm) (by unfold numsF; rw [List.getElem?_map, hq]; rfl)
          obtain ⟨aa, ca, rfl, _⟩ := hM.ha.rd
          obtain ⟨_, _, _, c3, _, _, _, _, _⟩ := hM.cells
          have hM' := hM
          have hC' := hC
          rw [hnl] at c3 hM' hC'
          obtain ⟨no, hno⟩ : ∃ no, numS dir q.nm = no := ⟨_, rfl⟩
          rw [hno] at hp m2 hqnm hqno
          obtain ⟨rl0, hrl0⟩ : ∃ rl0, (allR ((fl.take k).map (sgOf dir))).length = rl0 := ⟨_, rfl⟩
          rw [hrl0] at hal hM' hC'
          rw [hqnm] at hdata
          have HM := Lib.hid hM'
          have HC := Lib.hid hC'
          have HNO := Lib.hid hno
          have HRL0 := Lib.hid hrl0
          have HLT2 := Lib.hid hlt2
          have HQ := Lib.hid hq
          have HDATA := Lib.hid hdata
          have HNB : Hid (1 ≤ no ∧ no ≤ 99999999) := ⟨m2, hqno⟩
          have HQDT := Lib.hid hqdt
          have HQSC := Lib.hid hqsc
          have HSLE := Lib.hid hsle
          have HAL := Lib.hid hal
          clear hM hC hlt2 hM' hC' hnl hq hqm m1 m2 hqg hqnm hqno hdata hno hrl0 hqdt hqsc hsle hal
          go_wp2_with fail
          go_at_call 64
          refine (rname7_ok dir no HDL.out.1 HDL.out.2 HNB.out.1 HNB.out.2 wr).mono ?_
          rintro e Y1 ⟨rfl, hb1⟩
          have HB1 := Lib.hid hb1
          clear hb1 c3 hp
          go_wp2_with fail
          go_at_call 65
          refine (rread_any c S s (segN dir no) HOK.out.len Y1 (HO.out.la.new HB1.out).dk).mono ?_
          rintro e Y1' ⟨⟨ab, cb, rfl, hrb⟩, rfl⟩
          rw [HDATA.out] at hrb ⊢
          have HRB := Lib.hid hrb
          clear hrb
          go_wp2_with fail
          go_at_call 66
          refine (refScan_any ab q.dt.length cb q.dt Y1 HRB.out (by have := HQDT.out; omega)).mono ?_
          rintro e Y2 ⟨vr, vs, rfl, hown, hb2⟩
          obtain ⟨ar, cr, hvr, hrr⟩ := (show OwnO _ _ _ _ _ from OwnO.of_own hown.1).rd
          subst hvr
          have hb02 := next_below HB1.out hb2
          have hM2 := HM.out.new hb02
          obtain ⟨_, _, _, _, c4, _, _, _, _⟩ := hM2.cells
          have hhr := hM2.ha
          rw [HRL0.out] at hhr
          obtain ⟨rl, hrl⟩ : ∃ rl, (scan q.dt).1.length = rl := ⟨_, rfl⟩
          obtain ⟨en, hen⟩ : ∃ en, (scan q.dt).2 = en := ⟨_, rfl⟩
          obtain ⟨dl2, hdl2⟩ : ∃ dl2, q.dt.length = dl2 := ⟨_, rfl⟩
          rw [hrl] at hrr
          rw [hrl, hen, hdl2]
          have hrl3 : rl ≤ 349525 := by rw [← hrl]; exact HQSC.out
          have hen3 : en ≤ dl2 ∧ dl2 ≤ 4194304 := by rw [← hen, ← hdl2]; exact ⟨HSLE.out, HQDT.out⟩
          have HRL := Lib.hid hrl
          have HEN := Lib.hid hen
          have HDL2 := Lib.hid hdl2
          have HOWN := Lib.hid hown
          have HB2 := Lib.hid hb2
          have HB02 := Lib.hid hb02
          have HHR := Lib.hid hhr
          have HRR := Lib.hid hrr
          have hone : ∀ W, Fr (fun k => k < wr.heap.size ∨ Y2.heap.size ≤ k) Y2 W → RecsAt W vs (scan q.dt).1 := fun W hW => (hown.recs (w := wr) (by exact HB1.out.size) hW).2
          have HRECS := Lib.hid hone
          have hal3 := HAL.out
          clear hown hb2 hb02 hhr hrr hM2 hrl hen hdl2 hone
          go_wp2_with (at_builtin; refine wpList_appO S88 rfl (.tmp 127) (.tmp 128) rfl rfl HHR.out rfl HRR.out ?c1 ?c2 ?c3 ?_)
          case c1 => exact (HRECS.out Y2 (Fr.refl _ _)).one
          case c2 => omega
          case c3 => unfold maxLen; omega
          intro v5 w5 hown5 hgr hbk
          obtain ⟨a', cap', rfl, _⟩ := hown5.rd
          have hblk := HOWN.out.at_base
          have hpt := HM.out.pushA HC.out HLT2.out HB02.out hgr (vs := vs) (ps := (scan q.dt).1) (by rw [HRL0.out, HRL.out]; exact hown5)
           (HRECS.out w5 ((Fr.refl _ Y2).grown hgr fun k _ e => .inl (HM.out.blocks.2.2.1 k e))) (fun u hu k hk => by have h1 := (hblk.2 u hu k hk).1; have h2 := HB1.out.size; omega) hbk
          obtain ⟨q1, q2, q3, q4⟩ := hpt
          have P3 := Lib.hid q3
          have P4 := Lib.hid q4
          clear q3 q4 hown5 hgr hbk c4 hblk
          go_wp2_with fail
          clear q1 q2
          obtain ⟨W6, hW6⟩ : ∃ W6, w5.setCell ⟨l, 4, none⟩ (.slice a' (rl0 + rl) cap') = W6 := ⟨_, rfl⟩
          rw [hW6] at P3 P4 ⊢
          have HA6 : Hid (RAt w S c l S (Sx Sl wr W6) s dir room 0 (numsF dir fl) (allR ((fl.take (k + 1)).map (sgOf dir))) W6) := by
           show RAt _ _ _ _ _ _ _ _ _ _ _ _ _
           rw [take_snocV HQ.out, allR_snoc]
           exact HO.out.la.log P3.out P4.out fun k hk => hk
          clear P3 P4 hW6
          obtain ⟨nv6, av6, us6, hM6, hC6, _⟩ := HA6.out.lg
          obtain ⟨r6, off6, cap6, rfl, hp6⟩ := hM6.num (i := k) (n := numS dir q.nm) (by unfold numsF; rw [List.getElem?_map, HQ.out]; rfl)
          obtain ⟨_, _, _, c3, _, _, _, _, _⟩ := hM6.cells
          have hnl : (numsF dir fl).length = nn := by unfold numsF; rw [List.length_map, HNN.out]
          rw [hnl] at c3
          rw [HNO.out] at hp6
          have hnb := HNB.out
          obtain ⟨n1, hn1⟩ : ∃ n1, nn - 1 = n1 := ⟨_, rfl⟩
          have wn : IntKind.i64.wrap ((nn : Int) - 1) = (n1 : Int) := by rw [IntWalk.i64_in _ (by omega)]; omega
          by_cases hk1 : k + 1 < nn
          · obtain ⟨q2, hq2⟩ : ∃ q2, fl[k + 1]? = some q2 := ⟨_, List.getElem?_eq_getElem (by have := HNN.out; omega)⟩
            obtain ⟨_, _, _, e1, hp7⟩ := hM6.num (i := k + 1) (n := numS dir q2.nm) (by unfold numsF; rw [List.getElem?_map, hq2]; rfl)
            simp only [Value.slice.injEq, Option.some.injEq, Addr.mk.injEq] at e1
            obtain ⟨⟨rfl, rfl, _⟩, _, _⟩ := e1
            have hlk : linkB dir q q2 = ((dl2 == en) && (numS dir q2.nm == no + rl)) := by unfold linkB; rw [HNO.out, HRL.out, HEN.out, HDL2.out]
            have hls : linksB dir (fl.take (k + 1 + 1)) = linkB dir q q2 := by
             rw [take_snocV hq2, take_snocV HQ.out, List.append_assoc]
             show linksB dir (fl.take k ++ [q, q2]) = _
             rw [links_snoc]
             have h1 := HO.out.lk
             rw [take_snocV HQ.out] at h1
             rw [h1]; rfl
            obtain ⟨n2, hn2⟩ : ∃ n2, numS dir q2.nm = n2 := ⟨_, rfl⟩
            rw [hn2] at hp7 hlk
            have hn2b : n2 ≤ 99999999 := by rw [← hn2]; exact numS_le _ _
            obtain ⟨k1, hk1e⟩ : ∃ k1, k + 1 = k1 := ⟨_, rfl⟩
            rw [hk1e] at hp7 hk1
            have wk : IntKind.i64.wrap ((k : Int) + 1) = (k1 : Int) := by rw [IntWalk.i64_in _ (by omega)]; omega
            have wr1 : IntKind.i64.wrap ((no : Int) + (rl : Int)) = (no : Int) + (rl : Int) := IntWalk.i64_in _ (by omega)
            have dk : decide (k < n1) = true := decide_eq_true (by omega)
            have hkk : k < n1 := by omega
            have HLK := Lib.hid hlk
            have HLS := Lib.hid hls
            have HK1 := Lib.hid hk1e
            clear hM6 hC6 hlk hls hnl hn1 hn2 hk1e hq2 hn2b hnb hen3
            have hcorr : Hid (linkB dir q q2 = false → ∀ i, ROpenPost w c S (openL s dir room) (.returned (.tuple #[.pointer none, .int .i64 13])) (W6.drewN i)) := fun hb i => by
             have hne : segF dir s.fs ≠ [] := fun e => by
              rw [HFS.out] at e
              have h1 := HQ.out
              rw [e] at h1; simp at h1
             have hbad : linksB dir (segF dir s.fs) = false := by
              rw [HFS.out]
              cases hx : linksB dir fl with
              | false => rfl
              | true =>
               exfalso
               rw [← List.take_append_drop (k + 1 + 1) fl] at hx
               have h2 := links_pre dir _ _ hx
               rw [HLS.out, hb] at h2
               cases h2
             rw [openL_corrupt HA0.out hne hbad]
             exact ⟨rfl, (HA6.out.new (below_dn (Below.refl _ _) i)).done⟩
            by_cases hsz : en = dl2
            · have b1 : ((en : Int) != (dl2 : Int)) = false := by simp; omega
              by_cases hnx : n2 = no + rl
              · have b2 : ((n2 : Int) != (no : Int) + (rl : Int)) = false := by simp; omega
                have HLB : Hid (linkB dir q q2 = true) := by show _ = _; rw [HLK.out, hsz, hnx]; simp
                clear hsz hnx hcorr
                go_quiet (fail)
                clear b1 b2 wr1 wn c3 hp6 hp7 dk hkk
                have HA7 := Lib.hid (HA6.out.new (below_dn (Below.refl W6.heap.size W6) nq))
                go_wp2_with fail
                go_roundw
                case rel => exact ⟨k1, _, en, dl2, by omega, rfl, rfl, rfl, fun _ => ⟨q, by rw [← HK1.out]; exact HQ.out, HEN.out.symm, HDL2.out.symm⟩, by rw [← HK1.out]; exact HA7.out, by rw [← HK1.out, HLS.out]; exact HLB.out⟩
                case measure => have := HK1.out; simp [intOf]; omega
              · have b2 : ((n2 : Int) != (no : Int) + (rl : Int)) = true := by simp; omega
                have HG := Lib.hid (hcorr.out (by rw [HLK.out]; simp [hnx]))
                clear hsz hnx hcorr
                go_quiet (fail)
                clear b1 b2 wr1 wn c3 hp6 hp7 dk hkk
                go_wp2_with fail
                go_ret2
                exact HG.out _
            · have b1 : ((en : Int) != (dl2 : Int)) = true := by simp; omega
              have HG := Lib.hid (hcorr.out (by rw [HLK.out]; simp; omega))
              clear hsz hcorr
              go_quiet (fail)
              clear b1 wr1 wn c3 hp6 hp7 dk hkk
              go_wp2_with fail
              go_ret2
              exact HG.out _
          · have dk : decide (k < n1) = false := decide_eq_false (by omega)
            have hkk : ¬ k < n1 := by omega
            have HLB : Hid (linksB dir (fl.take (k + 1 + 1)) = true) := by
             have h1 := HO.out.lk
             show _ = _
             rw [List.take_of_length_le (by rw [HNN.out]; omega)] at h1 ⊢
             exact h1
            clear hM6 hC6 hnl hn1 hnb hen3
            go_quiet (fail)
            clear wn c3 hp6 dk hkk
            have HA7 := Lib.hid (HA6.out.new (below_dn (Below.refl W6.heap.size W6) nq))
            go_wp2_with fail
            go_roundw
            case rel => exact ⟨k + 1, _, en, dl2, by omega, by go_num, rfl, rfl, fun _ => ⟨q, HQ.out, HEN.out.symm, HDL2.out.symm⟩, HA7.out, HLB.out⟩
            case measure => simp [intOf]; omega
        · obtain rfl : k = nn := by omega
          obtain ⟨q, hq, hw1, hw2⟩ := HW.out (by omega)
          have hqf : q = f := by
           have h1 := HNN.out
           rw [HCC.out] at hq h1
           rw [← h1, List.length_append, List.length_singleton, Nat.add_sub_cancel, List.getElem?_append_right (Nat.le_refl _), Nat.sub_self] at hq
           simpa using hq.symm
          subst hqf
          have hla : RAt w S c l S Sl s dir room 0 (numsF dir (pre ++ [q])) (allR ((pre ++ [q]).map (sgOf dir))) wr := by
           have h1 := HO.out.la
           rw [List.take_of_length_le (by rw [HNN.out]; exact Nat.le_refl _), HCC.out] at h1
           exact h1
          have hlk : linksB dir (pre ++ [q]) = true := by
           have h1 := HO.out.lk
           rw [List.take_of_length_le (by rw [HNN.out]; omega), HCC.out] at h1
           exact h1
          have hso : segF dir s.fs = pre ++ [q] := by rw [HFS.out, HCC.out]
          have hfm : q ∈ segF dir s.fs := by rw [hso]; simp
          obtain ⟨m1, m2⟩ := segF_mem.1 hfm
          have hfg := srt_get HOK.out.srt m1
          have hqdt : q.dt.length ≤ 4194304 := Nat.le_trans (dt_le_tot m1) HOK.out.tot
          have hqnm := (numS_pos m2).1
          have hqno := numS_le dir q.nm
          have hqsl := scan_le q.dt
          have HOL := Lib.hid (openL_mend (room := room) HA0.out hso hlk)
          have HJOK : Hid ((mendS s q).2 = 0 → LOk (mendS s q).1 (joinedG dir room pre q)) := fun h => joined_ok HOK.out HDL.out.1 HDL.out.2 HDR.out.1 HDR.out.2 hso hlk h
          have HMOK := Lib.hid (mend_ok HOK.out hfg)
          have HT0 : Hid (∀ k, S k → k < w.heap.size) := HD.out.lt
          have HCUT : Hid (mendS s q = if (scan q.dt).2 < q.dt.length then cutS s q.nm ((scan q.dt).2 : Nat) else (s, 0)) := rfl
          have HFIN : Hid (∀ W Sd s', RAt w S c l Sd Sl s' dir room 0 (numsF dir (pre ++ [q])) (allR ((pre ++ [q]).map (sgOf dir))) W → RWS W c l (Sx S w W) s' (joinedG dir room pre q) ∧ Fr S w W) := fun W Sd s' h => by
           obtain ⟨j1, j2⟩ := joined_nums dir room pre q
           rw [← j1, ← j2] at h
           exact RAt.fin (g := joinedG dir room pre q) h
          obtain ⟨no, hno⟩ : ∃ no, numS dir q.nm = no := ⟨_, rfl⟩
          rw [hno] at hqnm hqno m2
          have HLAST : Hid ((numsF dir (pre ++ [q])).getLast? = some no) := by show _ = _; unfold numsF; rw [List.map_append]; simp [hno]
          have HNO : Hid (1 ≤ no ∧ no ≤ 99999999) := ⟨m2, hqno⟩
          have HNM := Lib.hid hqnm
          have HLA := Lib.hid hla
          rw [← hw1, ← hw2] at HCUT hqsl
          rw [← hw2] at hqdt
          obtain ⟨nv6, av6, us6, hM6, _, _⟩ := hla.lg
          obtain ⟨_, _, _, c3, _, _, _, _, _⟩ := hM6.cells
          have hnl : (numsF dir (pre ++ [q])).length = k := by unfold numsF; rw [List.length_map, ← HCC.out, HNN.out]
          obtain ⟨a6, ca6, rfl, _⟩ := hM6.hn.rd
          rw [hnl] at c3
          have HM6 := Lib.hid hM6
          clear hM hC hlt2 hnl hM6 hla hlk hso hfm m1 m2 hfg hqnm hqno hno hw1 hw2 HW HO hq
          by_cases hcut : wN < lN
          · have HCUT : Hid (mendS s q = cutS s q.nm (wN : Nat)) := by show _ = _; rw [HCUT.out, if_pos hcut]
            have hcut' : (wN : Int) < (lN : Int) := by omega
            go_wp2_with fail
            go_at_call 63
            refine (rlast_any HM6.out HLAST.out HNO.out.1 HNO.out.2 HDL.out.1 HDL.out.2).mono ?_
            rintro e w4 ⟨rfl, hb4⟩
            have HA4 := Lib.hid (HLA.out.new hb4)
            clear hb4 c3
            rw [← HNM.out]
            go_wp2_with fail
            go_at_call 67
            refine (rcut_any c S B (by omega) s q.nm (wN : Nat) (by omega) (by omega) HOK.out w4 HA4.out.dk).mono ?_
            rintro e w5 ⟨rfl, k1, k2⟩
            have hA5 := HA4.out.disk k1 k2
            rw [← HCUT.out] at hA5 ⊢
            have HA5 := Lib.hid hA5
            clear hA5 k1 k2 hcut hcut'
            by_cases h0 : (mendS s q).2 = 0
            · rw [h0]
              obtain ⟨q1, q2⟩ := HFIN.out _ _ _ HA5.out
              have HQ2 := Lib.hid q2
              have HS := Lib.hid (rsyncL_any (by omega) HMOK.out q1 (HJOK.out h0))
              have H0 := Lib.hid h0
              clear q1 q2 h0
              go_wp2_with fail
              go_at_call 42
              refine (HS.out).mono ?_
              rintro e w6 ⟨rfl, r1, r2⟩
              obtain ⟨f1, f2⟩ := ropen_fin HT0.out HQ2.out H0.out HOL.out r1 r2
              by_cases h0 : (syncL (mendS s q).1 (joinedG dir room pre q)).e = 0
              · have HG := Lib.hid (f1 h0)
                rw [h0]
                clear f1 f2 h0 r1 r2
                go_wp2_with fail
                go_ret2
                exact HG.out
              · have HG := Lib.hid (f2 h0)
                have hbE : ((syncL (mendS s q).1 (joinedG dir room pre q)).e != 0) = true := by simpa using h0
                clear f1 f2 h0 r1 r2
                obtain ⟨e, he⟩ : ∃ e, (syncL (mendS s q).1 (joinedG dir room pre q)).e = e := ⟨_, rfl⟩
                rw [he] at HG hbE ⊢
                clear he
                go_wp2_with fail
                go_ret2
                exact HG.out
            · have HG : Hid (ROpenPost w c S (openL s dir room) (.returned (.tuple #[.pointer none, .int .i64 (mendS s q).2])) w5) := by
               rw [HOL.out]
               unfold openM
               rw [if_pos h0]
               exact ⟨rfl, HA5.out.done⟩
              have hbE : ((mendS s q).2 != 0) = true := by simpa using h0
              clear h0
              obtain ⟨e, he⟩ : ∃ e, (mendS s q).2 = e := ⟨_, rfl⟩
              rw [he] at HG hbE ⊢
              clear he
              go_wp2_with fail
              go_ret2
              exact HG.out
          · have hms : mendS s q = (s, 0) := by rw [HCUT.out, if_neg hcut]
            have hcut' : ¬ (wN : Int) < (lN : Int) := by omega
            have dcut : decide (wN < lN) = false := decide_eq_false hcut
            have hm0 : (mendS s q).2 = 0 := by rw [hms]
            have hm1 : (mendS s q).1 = s := by rw [hms]
            have hla := HLA.out
            rw [← hm1] at hla
            obtain ⟨q1, q2⟩ := HFIN.out _ _ _ hla
            have HQ2 := Lib.hid q2
            have HS := Lib.hid (rsyncL_any (by omega) HMOK.out q1 (HJOK.out hm0))
            have H0 := Lib.hid hm0
            clear q1 q2 hla hms hm0 hm1
            go_wp2_with fail
            go_at_call 42
            refine (HS.out).mono ?_
            rintro e w6 ⟨rfl, r1, r2⟩
            obtain ⟨f1, f2⟩ := ropen_fin HT0.out HQ2.out H0.out HOL.out r1 r2
            by_cases h0 : (syncL (mendS s q).1 (joinedG dir room pre q)).e = 0
            · have HG := Lib.hid (f1 h0)
              rw [h0]
              clear f1 f2 h0 r1 r2
              go_wp2_with fail
              go_ret2
              exact HG.out
            · have HG := Lib.hid (f2 h0)
              have hbE : ((syncL (mendS s q).1 (joinedG dir room pre q)).e != 0) = true := by simpa using h0
              clear f1 f2 h0 r1 r2
              obtain ⟨e, he⟩ : ∃ e, (syncL (mendS s q).1 (joinedG dir room pre q)).e = e := ⟨_, rfl⟩
              rw [he] at HG hbE ⊢
              clear he
              go_wp2_with fail
              go_ret2
              exact HG.out
end Go.Proofs.YtjjcilinghgphaaGreat

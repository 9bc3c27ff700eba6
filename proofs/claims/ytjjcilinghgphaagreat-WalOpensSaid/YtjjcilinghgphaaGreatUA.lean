/-
 What the document's log tells: last, First, Next, Safe; the number of a name (raceref7.number).
 The number of a name, by the document (raceref7.number).
 The document's log: Sync.
 The document's log: what stands ahead of Append (plain, and the memory's turns).
-/
import Derived.Test.YtjjcilinghgphaaGreatU1
import Derived.Test.YtjjcilinghgphaaGreatV26
import Derived.Test.YtjjcilinghgphaaGreatE14
/-! ### What the document's log tells: last, First, Next, Safe; the number of a name (raceref7.number). -/
namespace Go.Proofs.YtjjcilinghgphaaGreat
open Go.RowKit Go.Maps
set_option maxRecDepth 100000
attribute [local go_sem] bs_size bs_toList
section
variable {w w' : World} {l c : Nat} {dir : List UInt8} {room : Int} {sf : Nat} {nv av : Value} {fs : List Nat} {us : List Value} {rs : List (List UInt8)} {S : Nat → Prop}
theorem RgM.draws (h : RgM w l c dir room sf nv av fs us rs) (hw : ∃ k, w' = w.drewN k) : RgM w' l c dir room sf nv av fs us rs := by
 obtain ⟨k, rfl⟩ := hw
 exact h.keep rfl (fun _ _ => rfl) (fun _ _ => rfl) fun _ _ _ _ => rfl
/-- A number's cell. -/
theorem RgM.num (h : RgM w l c dir room sf nv av fs us rs) {i n : Nat} (hi : fs[i]? = some n) : ∃ r off cap, nv = .slice (some ⟨r, off, none⟩) fs.length cap ∧ w.cell? ⟨r, off + i, none⟩ = some (.int .i64 (n : Int)) := by
 obtain ⟨a, cap, hv, hr⟩ := h.hn.rd
 have hlt := (List.getElem?_eq_some_iff.1 hi).1
 obtain ⟨r, off, rfl, _, hc⟩ := hr.at (by omega)
 exact ⟨r, off, cap, hv, hc i _ (by rw [List.getElem?_map, hi]; rfl)⟩
/-- A record's cell. -/
theorem RgM.recc (h : RgM w l c dir room sf nv av fs us rs) {i : Nat} {p : List UInt8} (hi : rs[i]? = some p) : ∃ r off cap a ca, av = .slice (some ⟨r, off, none⟩) rs.length cap ∧ w.cell? ⟨r, off + i, none⟩ = some (.slice a p.length ca) ∧ Rd8 w a p.length ca p ∧ us[i]? = some (.slice a p.length ca) := by
 obtain ⟨a, cap, hv, hr⟩ := h.ha.rd
 have hlt := (List.getElem?_eq_some_iff.1 hi).1
 obtain ⟨r, off, rfl, _, hc⟩ := hr.at (by omega)
 obtain ⟨u, hu⟩ : ∃ u, us[i]? = some u := ⟨_, List.getElem?_eq_getElem (by rw [h.each.1]; exact hlt)⟩
 obtain ⟨au, cu, rfl, hru⟩ := (h.each.2 _ _ _ hu hi).rd
 exact ⟨r, off, cap, au, cu, hv, hc i _ hu, hru, hu⟩
theorem RgM.nlen (h : RgM w l c dir room sf nv av fs us rs) : fs.length ≤ maxLen := h.hn.len
theorem RgM.rlen (h : RgM w l c dir room sf nv av fs us rs) : rs.length ≤ maxLen := h.ha.len
set_option maxHeartbeats 1000000 in
theorem rlast_any (h : RgM w l c dir room sf nv av fs us rs) {n : Nat} (hf : fs.getLast? = some n) (h1 : 1 ≤ n) (h2 : n ≤ 99999999) (d1 : 1 ≤ dir.length) (d2 : dir.length ≤ 11) :
 Calls Tryz.prog 63 #[.pointer (some ⟨l, 0, none⟩)] w (NamePost w (segN dir n)) := by
 have hmx := h.nlen
 unfold maxLen at hmx
 have hi : fs[fs.length - 1]? = some n := by rw [← List.getLast?_eq_getElem?]; exact hf
 have hlt := (List.getElem?_eq_some_iff.1 hi).1
 obtain ⟨r, off, cap, rfl, hp⟩ := h.num hi
 obtain ⟨_, c1, _, c3, _, _, _, _, _⟩ := h.cells
 obtain ⟨m, hm⟩ : ∃ m, fs.length = m := ⟨_, rfl⟩
 rw [hm] at hlt hmx hp c3
 have w1 : IntKind.i64.wrap ((m : Int) - 1) = (m : Int) - 1 := IntWalk.i64_in _ (by omega)
 have w2 : 0 ≤ (m : Int) - 1 := by omega
 have w2' : (1 : Int) ≤ m := by omega
 have w3 : (m : Int) - 1 < m := by omega
 have w4 : ((m : Int) - 1).toNat = m - 1 := by omega
 have H1 := Lib.hid h1
 have H2 := Lib.hid h2
 have D1 := Lib.hid d1
 have D2 := Lib.hid d2
 clear h hf hi hm h1 h2 d1 d2
 go_enter Tryz.func63, Tryz.ntmps63
 go_wp2_with fail
 refine wp_region_ht 21 (fun W => W.cell? ⟨l, 1, none⟩ = some (.string (bs dir)) ∧ W.cell? ⟨l, 3, none⟩ = some (.slice (some ⟨r, off, none⟩) m cap) ∧ W.cell? ⟨r, off + (m - 1), none⟩ = some (.int .i64 (n : Int))) (by kernel_rfl) (by kernel_rfl) ?_ (fun hHeld => ?_)
 · exact ⟨c1, c3, hp⟩
 try simp only [Act.put, List.setIfInBounds_toArray, List.set_cons_zero, List.set_cons_succ]
 refine wpHT_takeD (i := 0) (d := 6) (v := ?_) (by kernel_rfl) rfl rfl (by decide) (by kernel_rfl) (by kernel_rfl) (fun _ _ _ h => h) (Or.inl ⟨by kernel_rfl, ?_⟩) (by assumption) ?_
 rotate_left
 · intro w hSw; (try dsimp only at hSw); go_simp; (try with_reducible rfl)
 try simp only [Act.put, List.setIfInBounds_toArray, List.set_cons_zero, List.set_cons_succ]
 refine wpHT_takeD (i := 1) (d := 7) (v := ?_) (by kernel_rfl) rfl rfl (by decide) (by kernel_rfl) (by kernel_rfl) (fun _ _ _ h => h) (Or.inl ⟨by kernel_rfl, ?_⟩) (by assumption) ?_
 rotate_left
 · intro w hSw; (try dsimp only at hSw); go_simp; (try with_reducible rfl)
 try simp only [Act.put, List.setIfInBounds_toArray, List.set_cons_zero, List.set_cons_succ]
 refine wpHT_takeD (i := 2) (d := 8) (v := ?_) (by kernel_rfl) rfl rfl (by decide) (by kernel_rfl) (by kernel_rfl) (fun _ _ _ h => h) (Or.inl ⟨by kernel_rfl, ?_⟩) (by assumption) ?_
 rotate_left
 · intro w hSw; (try dsimp only at hSw); go_simp; (try with_reducible rfl)
 try simp only [Act.put, List.setIfInBounds_toArray, List.set_cons_zero, List.set_cons_succ]
 refine wpHT_takeD (i := 3) (d := 9) (v := ?_) (by kernel_rfl) rfl rfl (by decide) (by kernel_rfl) (by kernel_rfl) (fun _ _ _ h => h) (Or.inl ⟨by kernel_rfl, ?_⟩) (by assumption) ?_
 rotate_left
 · intro w hSw; (try dsimp only at hSw); go_simp; (try with_reducible rfl)
 try simp only [Act.put, List.setIfInBounds_toArray, List.set_cons_zero, List.set_cons_succ]
 refine wpHT_takeD (i := 4) (d := 10) (v := ?_) (by kernel_rfl) rfl rfl (by decide) (by kernel_rfl) (by kernel_rfl) (fun _ _ _ h => h) (Or.inl ⟨by kernel_rfl, ?_⟩) (by assumption) ?_
 rotate_left
 · intro w hSw; (try dsimp only at hSw); go_simp; (try with_reducible rfl)
 try simp only [Act.put, List.setIfInBounds_toArray, List.set_cons_zero, List.set_cons_succ]
 refine wpHT_takeD (i := 5) (d := 11) (v := ?_) (by kernel_rfl) rfl rfl (by decide) (by kernel_rfl) (by kernel_rfl) (fun _ _ _ h => h) (Or.inl ⟨by kernel_rfl, ?_⟩) (by assumption) ?_
 rotate_left
 · intro w hSw; (try dsimp only at hSw); go_simp; (try with_reducible rfl)
 try simp only [Act.put, List.setIfInBounds_toArray, List.set_cons_zero, List.set_cons_succ]
 refine wpHT_takeD (i := 6) (d := 12) (v := ?_) (by kernel_rfl) rfl rfl (by decide) (by kernel_rfl) (by kernel_rfl) (fun _ _ _ h => h) (Or.inl ⟨by kernel_rfl, ?_⟩) (by assumption) ?_
 rotate_left
 · intro w hSw; (try dsimp only at hSw); go_simp; (try with_reducible rfl)
 try simp only [Act.put, List.setIfInBounds_toArray, List.set_cons_zero, List.set_cons_succ]
 refine wpHT_takeD (i := 7) (d := 13) (v := ?_) (by kernel_rfl) rfl rfl (by decide) (by kernel_rfl) (by kernel_rfl) (fun _ _ _ h => h) (Or.inl ⟨by kernel_rfl, ?_⟩) (by assumption) ?_
 rotate_left
 · intro w hSw; (try dsimp only at hSw); go_simp; (try with_reducible rfl)
 try simp only [Act.put, List.setIfInBounds_toArray, List.set_cons_zero, List.set_cons_succ]
 refine wpHT_takeD (i := 8) (d := 14) (v := ?_) (by kernel_rfl) rfl rfl (by decide) (by kernel_rfl) (by kernel_rfl) (fun _ _ _ h => h) (Or.inl ⟨by kernel_rfl, ?_⟩) (by assumption) ?_
 rotate_left
 · intro w hSw; (try dsimp only at hSw); go_simp; (try with_reducible rfl)
 try simp only [Act.put, List.setIfInBounds_toArray, List.set_cons_zero, List.set_cons_succ]
 refine wpHT_takeD (i := 9) (d := 15) (v := ?_) (by kernel_rfl) rfl rfl (by decide) (by kernel_rfl) (by kernel_rfl) (fun _ _ _ h => h) (Or.inl ⟨by kernel_rfl, ?_⟩) (by assumption) ?_
 rotate_left
 · intro w hSw; (try dsimp only at hSw); go_simp; (try with_reducible rfl)
 try simp only [Act.put, List.setIfInBounds_toArray, List.set_cons_zero, List.set_cons_succ]
 refine wpHT_takeD (i := 10) (d := 16) (v := ?_) (by kernel_rfl) rfl rfl (by decide) (by kernel_rfl) (by kernel_rfl) (fun _ _ _ h => h) (Or.inl ⟨by kernel_rfl, ?_⟩) (by assumption) ?_
 rotate_left
 · intro w hSw; (try dsimp only at hSw); go_simp; (try with_reducible rfl)
 try simp only [Act.put, List.setIfInBounds_toArray, List.set_cons_zero, List.set_cons_succ]
 refine wpHT_takeD (i := 11) (d := 17) (v := ?_) (by kernel_rfl) rfl rfl (by decide) (by kernel_rfl) (by kernel_rfl) (fun _ _ _ h => h) (Or.inl ⟨by kernel_rfl, ?_⟩) (by assumption) ?_
 rotate_left
 · intro w hSw; (try dsimp only at hSw); go_simp; (try with_reducible rfl)
 try simp only [Act.put, List.setIfInBounds_toArray, List.set_cons_zero, List.set_cons_succ]
 refine wpHT_takeD (i := 12) (d := 18) (v := ?_) (by kernel_rfl) rfl rfl (by decide) (by kernel_rfl) (by kernel_rfl) (fun _ _ _ h => h) (Or.inl ⟨by kernel_rfl, ?_⟩) (by assumption) ?_
 rotate_left
 · intro w hSw; (try dsimp only at hSw); go_simp; (try with_reducible rfl)
 try simp only [Act.put, List.setIfInBounds_toArray, List.set_cons_zero, List.set_cons_succ]
 refine wpHT_takeD (i := 13) (d := 19) (v := ?_) (by kernel_rfl) rfl rfl (by decide) (by kernel_rfl) (by kernel_rfl) (fun _ _ _ h => h) (Or.inl ⟨by kernel_rfl, ?_⟩) (by assumption) ?_
 rotate_left
 · intro w hSw; (try dsimp only at hSw); go_simp; (try with_reducible rfl)
 try simp only [Act.put, List.setIfInBounds_toArray, List.set_cons_zero, List.set_cons_succ]
 refine wpHT_takeD (i := 14) (d := 20) (v := ?_) (by kernel_rfl) rfl rfl (by decide) (by kernel_rfl) (by kernel_rfl) (fun _ _ _ h => h) (Or.inl ⟨by kernel_rfl, ?_⟩) (by assumption) ?_
 rotate_left
 · intro w hSw; (try dsimp only at hSw); go_simp; (try with_reducible rfl)
 try simp only [Act.put, List.setIfInBounds_toArray, List.set_cons_zero, List.set_cons_succ]
 refine wpHT_takeD (i := 15) (d := 21) (v := ?_) (by kernel_rfl) rfl rfl (by decide) (by kernel_rfl) (by kernel_rfl) (fun _ _ _ h => h) (Or.inl ⟨by kernel_rfl, ?_⟩) (by assumption) ?_
 rotate_left
 · intro w hSw; (try dsimp only at hSw); go_simp; (try with_reducible rfl)
 try simp only [Act.put, List.setIfInBounds_toArray, List.set_cons_zero, List.set_cons_succ]
 refine wpHT_one (i := 16) (by kernel_rfl) rfl (by decide) (fun K hK => ?_)
 go_simp
 go_at_call 64
 refine (rname7_ok dir n D1.out D2.out H1.out H2.out _).mono ?_
 rintro e w2 ⟨rfl, hb⟩
 have hb' : Below w.heap.size w w2 := (Below.refl _ w).drew.trans hb
 have HB2 := Lib.hid hb'
 have c1 := cell_below c1 hb'
 have c3 := cell_below c3 hb'
 have hp := cell_below hp hb'
 clear hb hb'
 refine hK.out _ _ ?_ (fun hHeld => ?_)
 · exact ⟨c1, c3, hp⟩
 clear hK K
 try simp only [Act.put, List.setIfInBounds_toArray, List.set_cons_zero, List.set_cons_succ]
 refine wpHT_takeD (i := 17) (d := 5) (v := ?_) (by kernel_rfl) rfl rfl (by decide) (by kernel_rfl) (by kernel_rfl) (fun _ _ _ h => h) (Or.inl ⟨by kernel_rfl, ?_⟩) (by assumption) ?_
 rotate_left
 · intro w hSw; (try dsimp only at hSw); go_simp; (try with_reducible rfl)
 try simp only [Act.put, List.setIfInBounds_toArray, List.set_cons_zero, List.set_cons_succ]
 refine wpHT_takeD (i := 18) (d := 23) (v := ?_) (by kernel_rfl) rfl rfl (by decide) (by kernel_rfl) (by kernel_rfl) (fun _ _ _ h => h) (Or.inl ⟨by kernel_rfl, ?_⟩) (by assumption) ?_
 rotate_left
 · intro w hSw; (try dsimp only at hSw); go_simp; (try with_reducible rfl)
 try simp only [Act.put, List.setIfInBounds_toArray, List.set_cons_zero, List.set_cons_succ]
 refine wpHT_takeD (i := 19) (d := 24) (v := ?_) (by kernel_rfl) rfl rfl (by decide) (by kernel_rfl) (by kernel_rfl) (fun _ _ _ h => h) (Or.inl ⟨by kernel_rfl, ?_⟩) (by assumption) ?_
 rotate_left
 · intro w hSw; (try dsimp only at hSw); go_simp; (try with_reducible rfl)
 try simp only [Act.put, List.setIfInBounds_toArray, List.set_cons_zero, List.set_cons_succ]
 refine wpHT_takeD (i := 20) (d := 3) (v := ?_) (by kernel_rfl) rfl rfl (by decide) (by kernel_rfl) (by kernel_rfl) (fun _ _ _ h => h) (Or.inl ⟨by kernel_rfl, ?_⟩) (by assumption) ?_
 rotate_left
 · intro w hSw; (try dsimp only at hSw); go_simp; (try with_reducible rfl)
 try simp only [Act.put, List.setIfInBounds_toArray, List.set_cons_zero, List.set_cons_succ]
 refine wpHT_done (by kernel_rfl) ?_
 simp only [List.drop_succ_cons, List.drop_zero]
 clear hHeld
 go_wp2_with fail
 go_ret
 exact ⟨rfl, HB2.out⟩
set_option maxHeartbeats 1000000 in
theorem rfirst_any (h : RgM w l c dir room sf nv av fs us rs) {n : Nat} (hi : fs[0]? = some n) :
 Calls Tryz.prog 31 #[.pointer (some ⟨l, 0, none⟩)] w fun e w' => e = .returned (.int .i64 (n : Nat)) ∧ w = w' := by
 have hmx := h.nlen
 unfold maxLen at hmx
 have hlt := (List.getElem?_eq_some_iff.1 hi).1
 obtain ⟨r, off, cap, rfl, hp⟩ := h.num hi
 obtain ⟨_, _, _, c3, _, _, _, _, _⟩ := h.cells
 simp only [Nat.add_zero] at hp
 obtain ⟨m, hm⟩ : ∃ m, fs.length = m := ⟨_, rfl⟩
 rw [hm] at hlt hmx c3
 clear h hi hm
 go_enter Tryz.func31, Tryz.ntmps31
 go_wp2
 go_ret
 exact ⟨rfl, rfl⟩
set_option maxHeartbeats 1000000 in
theorem rnext_any (h : RgM w l c dir room sf nv av fs us rs) {n : Nat} (hi : fs[0]? = some n) (hb : n + rs.length ≤ 1000000000) :
 Calls Tryz.prog 32 #[.pointer (some ⟨l, 0, none⟩)] w fun e w' => e = .returned (.int .i64 ((n + rs.length : Nat))) ∧ ∃ k, w' = w.drewN k := by
 have hmx := h.nlen
 unfold maxLen at hmx
 have hlt := (List.getElem?_eq_some_iff.1 hi).1
 obtain ⟨r, off, cap, rfl, hp⟩ := h.num hi
 obtain ⟨_, _, _, c3, c4, _, _, _, _⟩ := h.cells
 obtain ⟨a, ca, hv, _⟩ := h.ha.rd
 rw [hv] at c4
 simp only [Nat.add_zero] at hp
 obtain ⟨m, hm⟩ : ∃ m, fs.length = m := ⟨_, rfl⟩
 rw [hm] at hlt hmx c3
 have w1 : IntKind.i64.wrap ((n : Int) + (rs.length : Int)) = (n : Int) + (rs.length : Int) := IntWalk.i64_in _ (by omega)
 obtain ⟨k, hk⟩ : ∃ k, rs.length = k := ⟨_, rfl⟩
 rw [hk] at c4 w1 hb
 have HK := Lib.hid hk
 clear h hi hm hv hk
 go_enter Tryz.func32, Tryz.ntmps32
 go_wp2
 go_quiet (fail)
 go_wp2
 go_ret
 exact ⟨by rw [HK.out]; congr 2, _, rfl⟩
set_option maxHeartbeats 1000000 in
theorem rsafe_any (h : RgM w l c dir room sf nv av fs us rs) {n : Nat} (hi : fs[0]? = some n) (h1 : 1 ≤ n) (hf : n ≤ 1000000000) (hs : sf ≤ 1000000000) :
 Calls Tryz.prog 33 #[.pointer (some ⟨l, 0, none⟩)] w fun e w' => e = .returned (.int .i64 (max sf (n - 1) : Nat)) ∧ ∃ k, w' = w.drewN k := by
 have q := fun W (hW : ∃ k, W = w.drewN k) => rfirst_any (h.draws hW) hi
 obtain ⟨_, _, _, _, _, c5, _, _, _⟩ := h.cells
 have w1 : IntKind.i64.wrap ((n : Int) - 1) = (n : Int) - 1 := IntWalk.i64_in _ (by omega)
 have Q : Hid (∀ W, (∃ k, W = w.drewN k) → Calls Tryz.prog 31 #[.pointer (some ⟨l, 0, none⟩)] W fun e w' => e = .returned (.int .i64 (n : Nat)) ∧ w' = W) := fun W hW => (q W hW).mono fun e w' hh => ⟨hh.1, hh.2.symm⟩
 clear h hi q
 have HX : Hid (max (sf : Int) ((n : Int) - 1) = ((max sf (n - 1) : Nat) : Int)) := by show _ = _; omega
 go_enter Tryz.func33, Tryz.ntmps33
 go_wp2
 go_quiet ((go_at_call 31; exact Calls.quiet_of_same (Q.out _ ⟨_, rfl⟩)))
 go_wp2
 go_ret
 exact ⟨congrArg (fun z => Ending.returned (.int .i64 z)) HX.out, _, rfl⟩
end
/-! ### over a log's state -/
theorem LG.nums0 (g : LG) : g.nums[0]? = some g.first := by
 unfold LG.nums LG.segs LG.first
 cases g.pre <;> rfl
theorem LG.numsL (g : LG) : g.nums.getLast? = some g.la.f := by
 unfold LG.nums LG.segs
 rw [List.map_append]; simp
section
variable {w w' : World} {l c : Nat} {S S' : Nat → Prop} {s : DS} {g : LG}
abbrev RgG (w : World) (l c : Nat) (S : Nat → Prop) (g : LG) : Prop := RgS w l c S g.dir g.room g.sf g.nums g.all
theorem RgG.first (h : RgG w l c S g) : Calls Tryz.prog 31 #[.pointer (some ⟨l, 0, none⟩)] w fun e w' => e = .returned (.int .i64 (g.first : Nat)) ∧ w = w' := by
 obtain ⟨nv, av, us, hM, _⟩ := h
 exact rfirst_any hM g.nums0
theorem RgG.next (h : RgG w l c S g) (hk : LOk s g) : Calls Tryz.prog 32 #[.pointer (some ⟨l, 0, none⟩)] w fun e w' => e = .returned (.int .i64 (g.next : Nat)) ∧ ∃ n, w' = w.drewN n := by
 obtain ⟨nv, av, us, hM, _⟩ := h
 have h1 := hk.all_len
 have h2 := hk.next_le
 have := rnext_any hM g.nums0 (by omega)
 rwa [show g.first + g.all.length = g.next by omega] at this
theorem RgG.safe (h : RgG w l c S g) (hk : LOk s g) : Calls Tryz.prog 33 #[.pointer (some ⟨l, 0, none⟩)] w fun e w' => e = .returned (.int .i64 (g.safe : Nat)) ∧ ∃ n, w' = w.drewN n := by
 obtain ⟨nv, av, us, hM, _⟩ := h
 have h1 := hk.all_len
 have h2 := hk.next_le
 have h3 := hk.sfl
 exact rsafe_any hM g.nums0 hk.first_pos (by omega) (by omega)
theorem RgG.last (h : RgG w l c S g) (hk : LOk s g) : Calls Tryz.prog 63 #[.pointer (some ⟨l, 0, none⟩)] w (NamePost w g.lnm) := by
 obtain ⟨nv, av, us, hM, _⟩ := h
 exact rlast_any hM g.numsL hk.la.f1 hk.la.f2 hk.d1 hk.d2
end
end Go.Proofs.YtjjcilinghgphaaGreat

/-! ### The number of a name, by the document (raceref7.number). -/
namespace Go.Proofs.YtjjcilinghgphaaGreat
open Go.RowKit Go.Maps
set_option maxRecDepth 100000
attribute [local go_sem] bs_size bs_toList bs_get
theorem numS_ref {dir nm : List UInt8} (h1 : nm.length = dir.length + 9) : numS dir nm = if nm.take (dir.length + 1) = dir ++ [46] ∧ (nm.drop (dir.length + 1)).all isD = true then valA 0 (nm.drop (dir.length + 1)) else 0 := by
 have hk : dir.length < nm.length := by omega
 have ht : nm.take (dir.length + 1) = nm.take dir.length ++ [nm[dir.length]] := by rw [List.take_succ_eq_append_getElem hk]
 have hg : nm.getD dir.length 0 = nm[dir.length] := by simp [List.getD, hk]
 unfold numS
 by_cases h : nm.take (dir.length + 1) = dir ++ [46] ∧ (nm.drop (dir.length + 1)).all isD = true
 · rw [if_pos h]
   have h2 := h.1
   rw [ht] at h2
   obtain ⟨e1, e2⟩ := List.append_inj' h2 rfl
   rw [if_pos ⟨h1, e1, by rw [hg]; simpa using e2, h.2⟩]
 · rw [if_neg h, if_neg]
   rintro ⟨_, e1, e2, e3⟩
   refine h ⟨?_, e3⟩
   rw [ht, e1, ← hg, e2]
set_option maxHeartbeats 2000000 in
theorem rnumber_any (dir nm : List UInt8) (hd : dir.length ≤ 1000000) (hn : nm.length ≤ 9223372036854775807) (w : World) :
 Calls Tryz.prog 62 #[.string (bs dir), .string (bs nm)] w fun e w' => e = .returned (.int .i64 (numS dir nm : Nat)) ∧ w = w' := by
 obtain ⟨K, hK⟩ : ∃ K, dir.length + 1 = K := ⟨_, rfl⟩
 have w8 : IntKind.i64.wrap ((dir.length : Int) + 1) = (K : Int) := by rw [IntWalk.i64_in _ (by omega)]; omega
 have w9 : IntKind.i64.wrap ((K : Int) + 8) = (K : Int) + 8 := IntWalk.i64_in _ (by omega)
 have HK := Lib.hid hK
 by_cases h1 : nm.length = dir.length + 9
 case neg =>
  have hz : Hid (numS dir nm = 0) := by show _ = _; unfold numS; rw [if_neg (fun h => h1 h.1)]
  have d1 : ((nm.length : Int) != (K : Int) + 8) = true := by simp; omega
  clear h1 hK
  go_enter Tryz.func62, Tryz.ntmps62
  go_wp2_with fail
  go_ret
  exact ⟨by rw [hz.out]; rfl, rfl⟩
 case pos =>
 have hle : K ≤ nm.length := by omega
 have q1 : (bs nm).extract 0 K = bs (nm.take K) := bs_takeV nm _
 have d1 : ((nm.length : Int) != (K : Int) + 8) = false := by simp; omega
 have hj1 : ∀ W, (Op.stringOp .add (bs dir) ⟨#[46]⟩).run Tryz.prog W = .ok (.string (bs (dir ++ [46]))) W := fun W => run_cat dir [46] (by simp; omega) W
 have hnr := numS_ref h1
 rw [hK] at hnr
 by_cases h2 : nm.take K = dir ++ [46]
 case neg =>
  have hz : Hid (numS dir nm = 0) := by show _ = _; rw [hnr, if_neg (fun h => h2 h.1)]
  have d2 : (nm.take K == dir ++ [46]) = false := by simpa using h2
  have H1 := Lib.hid h1
  clear h1 h2 hnr hK
  go_enter Tryz.func62, Tryz.ntmps62
  go_wp2_with fail
  go_ret
  exact ⟨by rw [hz.out]; rfl, rfl⟩
 case pos =>
 have d2 : (nm.take K == dir ++ [46]) = true := by simpa using h2
 obtain ⟨q, hq⟩ : ∃ q, nm.drop K = q := ⟨_, rfl⟩
 have hql : q.length = 8 := by rw [← hq, List.length_drop]; omega
 have hnum : numS dir nm = if q.all isD = true then valA 0 q else 0 := by
  rw [hnr, hq]
  by_cases hq2 : q.all isD = true
  · rw [if_pos ⟨h2, hq2⟩, if_pos hq2]
  · rw [if_neg (fun h => hq2 h.2), if_neg hq2]
 have hcell : ∀ j, bAt q j = bAt nm (K + j) := fun j => by rw [← hq]; simp [bAt, List.getD_eq_getElem?_getD, List.getElem?_drop]
 have HNUM := Lib.hid hnum
 have HQL := Lib.hid hql
 have HC := Lib.hid hcell
 have H1 := Lib.hid h1
 have H2 := Lib.hid h2
 have hnl : nm.length = K + 8 := by omega
 have HL := Lib.hid hnl
 have HN := Lib.hid hn
 clear hnum hql hcell h1 h2 hq hnr hK hnl
 go_enter Tryz.func62, Tryz.ntmps62
 go_wp2_with fail
 clear d1 d2 q1 w9
 go_loopw [6, 7] (fun n i wr => ∃ k N : Nat, k ≤ 8 ∧ i = .int .i64 (N : Nat) ∧ n = .int .i64 (valA 0 (q.take k) : Nat) ∧ wr = w ∧ Hid (N = K + k) ∧ Hid ((q.take k).all isD = true)) (fun _ i _ => nm.length - (intOf i).toNat)
 case atStart => exact ⟨0, K, by omega, rfl, rfl, rfl, rfl, rfl⟩
 case round =>
  obtain ⟨k, N, hk, rfl, rfl, hwr, HNK, HALL⟩ := hrel
  subst hwr
  by_cases hlt8 : k < 8
  · have hc := HC.out k
    rw [← HNK.out] at hc
    have hsn : q.take (k + 1) = q.take k ++ [bAt q k] := by
     rw [List.take_succ_eq_append_getElem (by rw [HQL.out]; exact hlt8)]
     congr 2
     simp [bAt, HQL.out, hlt8]
    have hv := valA_bd (q.take k) 0 HALL.out
    have hvl : (q.take k).length ≤ 7 := by rw [List.length_take]; omega
    have hpw : 10 ^ (q.take k).length ≤ 10 ^ 7 := Nat.pow_le_pow_right (by omega) hvl
    have hvb : valA 0 (q.take k) ≤ 10000000 := by
     have h7 : (10 : Nat) ^ 7 = 10000000 := by decide
     rw [h7] at hpw
     omega
    have hval := valA_snoc (q.take k) 0 (bAt q k)
    have HMEM : Hid (bAt q k ∈ q) := bAt_mem q k (by rw [HQL.out]; exact hlt8)
    rw [hc] at hsn hval HMEM
    obtain ⟨c, hcc⟩ : ∃ c, bAt nm N = c := ⟨_, rfl⟩
    rw [hcc] at hsn hval HMEM
    have HSN := Lib.hid hsn
    have HVAL := Lib.hid hval
    have hy255 : c.toNat ≤ 255 := by have := c.toNat_lt; omega
    obtain ⟨v, hv'⟩ : ∃ v, valA 0 (q.take k) = v := ⟨_, rfl⟩
    rw [hv'] at hvb HVAL ⊢
    clear hc hsn hval hv hvl hpw hv'
    obtain ⟨y, hy⟩ : ∃ y, c.toNat = y := ⟨_, rfl⟩
    rw [hy] at hy255 HVAL
    have HY := Lib.hid hy
    have hcy : ((bAt nm N).toNat : Int) = (y : Int) := by rw [hcc, hy]
    have hlN' : N < nm.length := by have := HL.out; have := HNK.out; omega
    have hlN : (N : Int) < (nm.length : Int) := by omega
    have dN : decide ((N : Int) < (nm.length : Int)) = true := by simpa using hlN'
    have wN : IntKind.i64.wrap ((N : Int) + 1) = (N : Int) + 1 := IntWalk.i64_in _ (by omega)
    clear hy hcc
    by_cases hdig : 48 ≤ y ∧ y ≤ 57
    · obtain ⟨g1, g2⟩ := hdig
      have hall2 : (q.take (k + 1)).all isD = true := by
       rw [HSN.out, List.all_append, HALL.out]
       simp [isD_iff, HY.out, g1, g2]
      have HALL2 := Lib.hid hall2
      have b1 : ¬ ((y : Int) < 48) := by omega
      have b2 : ¬ ((57 : Int) < (y : Int)) := by omega
      have b1' : decide ((y : Int) < 48) = false := by simpa using b1
      have b2' : decide ((57 : Int) < (y : Int)) = false := by simpa using b2
      have w2 : IntKind.u8.wrap ((y : Int) - 48) = (y : Int) - 48 := by simp [IntKind.wrap, IntKind.bits, IntKind.signed]; omega
      clear hall2
      go_wp2_with fail
      go_roundw
      case rel => exact ⟨k + 1, N + 1, by omega, by go_num, by rw [HSN.out, HVAL.out]; congr 1; omega, trivial, by have := HNK.out; show _ = _; omega, HALL2.out⟩
      case measure => have := HNK.out; simp [intOf]; omega
    · have hz : Hid (numS dir nm = 0) := by
       show _ = _
       rw [HNUM.out, if_neg]
       intro h
       have := (isD_iff c).1 (List.all_eq_true.1 h c HMEM.out)
       rw [HY.out] at this
       exact hdig this
      by_cases b1 : (y : Int) < 48
      · have b1' : decide ((y : Int) < 48) = true := by simpa using b1
        clear hdig
        go_wp2_with fail
        go_ret
        exact ⟨by rw [hz.out]; rfl, rfl⟩
      · have b2 : (57 : Int) < (y : Int) := by omega
        have b1' : decide ((y : Int) < 48) = false := by simpa using b1
        have b2' : decide ((57 : Int) < (y : Int)) = true := by simpa using b2
        clear hdig
        go_wp2_with fail
        go_ret
        exact ⟨by rw [hz.out]; rfl, rfl⟩
  · obtain rfl : k = 8 := by omega
    have ht : q.take 8 = q := List.take_of_length_le (by rw [HQL.out]; exact Nat.le_refl _)
    have hz : Hid (numS dir nm = valA 0 (q.take 8)) := by
     show _ = _
     have := HALL.out
     rw [ht] at this ⊢
     rw [HNUM.out, if_pos this]
    have hlN : ¬ (N : Int) < (nm.length : Int) := by have := HL.out; have := HNK.out; omega
    have dN : decide ((N : Int) < (nm.length : Int)) = false := decide_eq_false hlN
    have dN' : decide (N < nm.length) = false := decide_eq_false (by omega)
    clear ht
    go_wp2_with fail
    go_ret
    exact ⟨by rw [hz.out]; rfl, rfl⟩
end Go.Proofs.YtjjcilinghgphaaGreat

/-! ### The document's log: Sync. -/
namespace Go.Proofs.YtjjcilinghgphaaGreat
open Go.RowKit Go.Maps
set_option maxRecDepth 100000
attribute [local go_sem] bs_size bs_toList
theorem RgM.lastN {w : World} {l c : Nat} {g : LG} {s : DS} {nv av : Value} {us : List Value} (h : RgM w l c g.dir g.room g.sf nv av g.nums us g.all) (hk : LOk s g) : Calls Tryz.prog 63 #[.pointer (some ⟨l, 0, none⟩)] w (NamePost w g.lnm) :=
 rlast_any h g.numsL hk.la.f1 hk.la.f2 hk.d1 hk.d2
theorem RgM.nextN {w : World} {l c : Nat} {g : LG} {s : DS} {nv av : Value} {us : List Value} (h : RgM w l c g.dir g.room g.sf nv av g.nums us g.all) (hk : LOk s g) : Calls Tryz.prog 32 #[.pointer (some ⟨l, 0, none⟩)] w fun e w' => e = .returned (.int .i64 (g.next : Nat)) ∧ ∃ n, w' = w.drewN n := by
 have h1 := hk.all_len
 have h2 := hk.next_le
 have := rnext_any h g.nums0 (by omega)
 rwa [show g.first + g.all.length = g.next by omega] at this
set_option maxHeartbeats 2000000 in
theorem rsyncL_any {w : World} {c l : Nat} {T : Nat → Prop} {B : Int} {s : DS} {g : LG} (hB : B ≤ 1000000000000) (hok : DOk B s) (h : RWS w c l T s g) (hk : LOk s g) :
 Calls Tryz.prog 42 #[.pointer (some ⟨l, 0, none⟩)] w (RLTold w c l T (syncL s g)) := by
 obtain ⟨Sd, Sl, hA⟩ := h.open
 obtain ⟨nv, av, us, hM, hC, hlt⟩ := hA.lg
 obtain ⟨c0, _, _, _, _, _, _, _, _⟩ := hM.cells
 have hnl := hk.next_le
 have hnp := hk.next_pos
 have HFin : Hid (∀ w3 Sd' sf' e, RAt w T c l Sd' Sl (syncS s g.lnm).1 g.dir g.room sf' g.nums g.all w3 → ((syncS s g.lnm).2 = 0 → sf' = g.next - 1 ∧ e = 0) → ((syncS s g.lnm).2 ≠ 0 → sf' = g.sf ∧ e = (syncS s g.lnm).2) → RLTold w c l T (syncL s g) (.returned (.int .i64 e)) w3) := by
  intro w3 Sd' sf' e h1 h2 h3
  unfold syncL
  by_cases h0 : (syncS s g.lnm).2 = 0
  · obtain ⟨rfl, rfl⟩ := h2 h0
    rw [if_pos h0]
    exact RAt.told (g := { g with sf := g.next - 1 }) h1
  · obtain ⟨rfl, rfl⟩ := h3 h0
    rw [if_neg h0]
    exact RAt.told (g := g) h1
 have HA := Lib.hid hA
 have HM := Lib.hid hM
 have HC := Lib.hid hC
 have HK := Lib.hid hk
 have HOK := Lib.hid hok
 have HNL := Lib.hid hnl
 have HNP := Lib.hid hnp
 have HLA : Hid (∀ W, (∃ k, W = w.drewN k) → Calls Tryz.prog 63 #[.pointer (some ⟨l, 0, none⟩)] W (NamePost W g.lnm)) := fun W hW => (hM.draws hW).lastN hk
 clear h hk hok hA hM hC hlt hnl hnp
 go_enter Tryz.func42, Tryz.ntmps42
 go_wp2_with fail
 refine wp_region_ht 6 (fun W => W.cell? ⟨l, 0, none⟩ = some (.pointer (some ⟨c, 0, none⟩))) (by kernel_rfl) (by kernel_rfl) ?_ (fun hHeld => ?_)
 · exact c0
 try simp only [Act.put, List.setIfInBounds_toArray, List.set_cons_zero, List.set_cons_succ]
 refine wpHT_takeD (i := 0) (d := 4) (v := ?_) (by kernel_rfl) rfl rfl (by decide) (by kernel_rfl) (by kernel_rfl) (fun _ _ _ h => h) (Or.inl ⟨by kernel_rfl, ?_⟩) (by assumption) ?_
 rotate_left
 · intro w hSw; (try dsimp only at hSw); go_simp; (try with_reducible rfl)
 try simp only [Act.put, List.setIfInBounds_toArray, List.set_cons_zero, List.set_cons_succ]
 refine wpHT_takeD (i := 1) (d := 5) (v := ?_) (by kernel_rfl) rfl rfl (by decide) (by kernel_rfl) (by kernel_rfl) (fun _ _ _ h => h) (Or.inl ⟨by kernel_rfl, ?_⟩) (by assumption) ?_
 rotate_left
 · intro w hSw; (try dsimp only at hSw); go_simp; (try with_reducible rfl)
 try simp only [Act.put, List.setIfInBounds_toArray, List.set_cons_zero, List.set_cons_succ]
 refine wpHT_takeD (i := 2) (d := 6) (v := ?_) (by kernel_rfl) rfl rfl (by decide) (by kernel_rfl) (by kernel_rfl) (fun _ _ _ h => h) (Or.inl ⟨by kernel_rfl, ?_⟩) (by assumption) ?_
 rotate_left
 · intro w hSw; (try dsimp only at hSw); go_simp; (try with_reducible rfl)
 try simp only [Act.put, List.setIfInBounds_toArray, List.set_cons_zero, List.set_cons_succ]
 refine wpHT_takeD (i := 3) (d := 7) (v := ?_) (by kernel_rfl) rfl rfl (by decide) (by kernel_rfl) (by kernel_rfl) (fun _ _ _ h => h) (Or.inl ⟨by kernel_rfl, ?_⟩) (by assumption) ?_
 rotate_left
 · intro w hSw; (try dsimp only at hSw); go_simp; (try with_reducible rfl)
 try simp only [Act.put, List.setIfInBounds_toArray, List.set_cons_zero, List.set_cons_succ]
 refine wpHT_takeD (i := 4) (d := 8) (v := ?_) (by kernel_rfl) rfl rfl (by decide) (by kernel_rfl) (by kernel_rfl) (fun _ _ _ h => h) (Or.inl ⟨by kernel_rfl, ?_⟩) (by assumption) ?_
 rotate_left
 · intro w hSw; (try dsimp only at hSw); go_simp; (try with_reducible rfl)
 try simp only [Act.put, List.setIfInBounds_toArray, List.set_cons_zero, List.set_cons_succ]
 refine wpHT_one (i := 5) (by kernel_rfl) rfl (by decide) (fun K hK => ?_)
 go_simp
 go_at_call 63
 refine (HLA.out _ ⟨1, rfl⟩).mono ?_
 rintro e w2 ⟨rfl, hb⟩
 have hb' : Below w.heap.size w w2 := (Below.refl _ w).drew.trans hb
 have HB2 := Lib.hid hb'
 have c0 := cell_below c0 hb'
 clear hb hb'
 refine hK.out _ _ ?_ (fun hHeld => ?_)
 · exact c0
 clear hK K
 try simp only [Act.put, List.setIfInBounds_toArray, List.set_cons_zero, List.set_cons_succ]
 refine wpHT_done (by kernel_rfl) ?_
 simp only [List.drop_succ_cons, List.drop_zero]
 clear hHeld
 have HA2 := Lib.hid (HA.out.new HB2.out)
 go_wp2_with fail
 go_at_call 78
 refine (rsync_any c Sd B hB s g.lnm HOK.out w2 HA2.out.dk).mono ?_
 rintro e w3 ⟨rfl, k1, k2⟩
 have HA3 := Lib.hid (HA2.out.disk k1 k2)
 have hM3 := (HM.out.new HB2.out).after HC.out k2 (fun k hk hs => HA2.out.dj k hs hk)
 have HM3 := Lib.hid hM3
 clear k1 k2 c0
 by_cases h0 : (syncS s g.lnm).2 = 0
 · rw [h0]
   obtain ⟨_, _, _, _, _, c5, _, _, f5⟩ := hM3.cells
   have hnx' : Hid (Calls Tryz.prog 32 #[.pointer (some ⟨l, 0, none⟩)] w3 fun e w' => e = .returned (.int .i64 (g.next : Nat)) ∧ ∃ n, w' = w3.drewN n) := hM3.nextN HK.out
   have H0 := Lib.hid h0
   clear hM3 h0
   obtain ⟨nx, hnx2⟩ : ∃ nx, g.next = nx := ⟨_, rfl⟩
   have hnb : 1 ≤ nx ∧ nx ≤ 100349524 := by rw [← hnx2]; exact ⟨HNP.out, HNL.out⟩
   rw [hnx2] at hnx'
   have HNX := Lib.hid hnx2
   clear hnx2
   obtain ⟨hn1, hn2⟩ := hnb
   go_wp2_with fail
   go_at_call 32
   refine (hnx'.out).mono ?_
   rintro e w4 ⟨rfl, i, rfl⟩
   have c5 : (w3.drewN i).cell? ⟨l, 5, none⟩ = some (.int .i64 (g.sf : Nat)) := c5
   have f5 : (w3.drewN i).frozen? ⟨l, 5, none⟩ = false := f5
   have HA4 := Lib.hid (HA3.out.new (below_dn (Below.refl _ _) i))
   have HM4 := Lib.hid (HM3.out.draws ⟨i, rfl⟩)
   obtain ⟨w4, hw4⟩ : ∃ w4, w3.drewN i = w4 := ⟨_, rfl⟩
   rw [hw4] at c5 f5 HA4 HM4 ⊢
   clear hw4
   go_wp2_with fail
   go_ret
   have hz : ((nx : Int) - 1) = ((nx - 1 : Nat) : Int) := by omega
   rw [hz]
   have hset := HM4.out.setSafe (nx - 1)
   have hfr : Fr Sl w4 (w4.setCell ⟨l, 5, none⟩ (.int .i64 ((nx - 1 : Nat) : Int))) := (Fr.refl Sl w4).setCell (p := ⟨l, 5, none⟩) (fun _ => HC.out.cl) _
   refine HFin.out _ _ (nx - 1) _ (HA4.out.log (Sl' := Sl) ⟨nv, av, us, hset, HC.out, fun k hk => ?_⟩ hfr (fun k hk => .inl hk)) (fun _ => ⟨by rw [HNX.out], rfl⟩) (fun h => absurd H0.out h)
   have := HA4.out.lt.2 k hk
   have := hfr.size
   omega
 · have hb : ((syncS s g.lnm).2 == 0) = false := by simpa using h0
   have HG : Hid (RLTold w c l T (syncL s g) (.returned (.int .i64 (syncS s g.lnm).2)) w3) := HFin.out _ _ _ _ HA3.out (fun h => absurd h h0) (fun _ => ⟨rfl, rfl⟩)
   clear hM3 h0
   obtain ⟨e, he⟩ : ∃ e, (syncS s g.lnm).2 = e := ⟨_, rfl⟩
   rw [he] at HG hb ⊢
   clear he
   go_wp2_with fail
   go_ret
   exact HG.out
end Go.Proofs.YtjjcilinghgphaaGreat

/-! ### The document's log: what stands ahead of Append (plain, and the memory's turns). -/
namespace Go.Proofs.YtjjcilinghgphaaGreat
open Go.RowKit Go.Maps
set_option maxRecDepth 100000
attribute [local go_sem] bs_size bs_toList
section
variable {s : DS} {g : LG} {p : List UInt8} {B : Int}
theorem syncL_s : (syncL s g).s = (syncS s g.lnm).1 := by unfold syncL; split <;> rfl
theorem syncL_dn (hd : s.dn = true) : syncL s g = ⟨s, g, 12⟩ := by
 have h : syncS s g.lnm = (s, 12) := errW_dn hd
 unfold syncL
 rw [h, if_neg (by simp)]
theorem putL_dn (hd : s.dn = true) : putL s g p = ⟨s, g, 12⟩ := by
 have h : appendS s g.lnm (frameOf p) = (s, 12) := by
  have e : appE s g.lnm (frameOf p) = 12 := by unfold appE; rw [hd]; rfl
  unfold appendS; rw [e]; rfl
 unfold putL
 rw [h, if_neg (by simp)]
theorem appL_dn (hd : s.dn = true) (h1 : ¬ 262144 < p.length) (h2 : ¬ 99999999 < g.next) : appL s g p = ⟨s, g, 12⟩ := by
 by_cases hf : (szS g.la : Int) < g.room
 · rw [appL_put h1 h2 (by rw [turnL_free hf]), turnL_free hf]; exact putL_dn hd
 · have e : (syncL s g).e ≠ 0 := by rw [syncL_dn hd]; simp
   rw [(appL_turn h1 h2 (by rw [turnL_sync hf e]; exact e)).1, turnL_sync hf e, syncL_dn hd]
theorem LOk.data (hk : LOk s g) (hd : s.dn = false) : (dataS s g.lnm).length = szS g.la := by
 have := hk.dat hd
 unfold dataS szS
 rw [this]; rfl
theorem ref_free (hk : LOk s g) (h1 : ¬ 262144 < p.length) (h2 : ¬ 99999999 < g.next) (hm : ((dataS s g.lnm).length : Int) < g.room) : appL s g p = putL s g p := by
 cases hd : s.dn with
 | true => rw [appL_dn hd h1 h2, putL_dn hd]
 | false =>
  rw [hk.data hd] at hm
  rw [appL_put h1 h2 (by rw [turnL_free hm]), turnL_free hm]
theorem ref_sync (hk : LOk s g) (h1 : ¬ 262144 < p.length) (h2 : ¬ 99999999 < g.next) (hm : ¬ ((dataS s g.lnm).length : Int) < g.room) (h0 : (syncL s g).e ≠ 0) : appL s g p = syncL s g := by
 cases hd : s.dn with
 | true => rw [appL_dn hd h1 h2, syncL_dn hd]
 | false =>
  rw [hk.data hd] at hm
  rw [(appL_turn h1 h2 (by rw [turnL_sync hm h0]; exact h0)).1, turnL_sync hm h0]
theorem ref_roll (hk : LOk s g) (hm : ¬ ((dataS s g.lnm).length : Int) < g.room) (h0 : (syncL s g).e = 0) : turnL s g = rollL (syncL s g).s (syncL s g).g g.next := by
 cases hd : s.dn with
 | true => rw [syncL_dn hd] at h0; cases h0
 | false =>
  rw [hk.data hd] at hm
  exact turnL_roll hm h0
theorem put_nums (f : Nat) : ({ g with la := ⟨g.la.f, g.la.rs ++ [p]⟩ } : LG).nums = g.nums ∧ ({ g with la := ⟨g.la.f, g.la.rs ++ [p]⟩ } : LG).all = g.all ++ [p] := by
 constructor
 · simp [LG.nums, LG.segs]
 · simp [LG.all, LG.segs, allR]
theorem roll_nums (n : Nat) : ({ g with pre := g.pre ++ [g.la], la := ⟨n, []⟩ } : LG).nums = g.nums ++ [n] ∧ ({ g with pre := g.pre ++ [g.la], la := ⟨n, []⟩ } : LG).all = g.all := by
 constructor
 · simp [LG.nums, LG.segs]
 · simp [LG.all, LG.segs, allR]
theorem sync_nums : (syncL s g).g.nums = g.nums ∧ (syncL s g).g.all = g.all := by unfold syncL; split <;> exact ⟨rfl, rfl⟩
theorem DOk.create {n : List UInt8} (h : DOk B s) : DOk (B + 1) (createS s n).1 := by
 refine h.errW _ _ fun _ he => ?_
 unfold creE at he
 split at he
 · cases he
 · split at he
   · cases he
   · split at he
     · cases he
     · refine h.fall.ins (by simp_all) ?_ ?_
       · rw [fallS_fs]; exact getF_isSome_false (by assumption)
       · rw [fallS_fs]; omega
end
section
variable {w Y w5 : World} {l c : Nat} {dir : List UInt8} {room : Int} {sf : Nat} {nv av : Value} {fs : List Nat} {us vs : List Value} {rs ps : List (List UInt8)} {S : Nat → Prop}
/-- A number more. -/
theorem RgM.pushN (h : RgM w l c dir room sf nv av fs us rs) (hC : CovR S l nv av us) (hlt : ∀ k, S k → k < w.heap.size) (hb : Below w.heap.size w Y) (hg : Y.grownBy w5 nv.ownBlock) {v : Value} {n : Nat} (ho : OwnO w5 3 v (fs.length + 1) (fs.map encN ++ [.int .i64 (n : Int)]))
 (hbk : v.ownBlock = nv.ownBlock ∨ v.ownBlock = some Y.heap.size) :
 w5.cell? ⟨l, 3, none⟩ = some nv ∧ w5.frozen? ⟨l, 3, none⟩ = false ∧ RgS (w5.setCell ⟨l, 3, none⟩ v) l c (Sx S w (w5.setCell ⟨l, 3, none⟩ v)) dir room sf (fs ++ [n]) rs ∧ Fr S w (w5.setCell ⟨l, 3, none⟩ v) := by
 obtain ⟨q1, q2, q3, q4⟩ := h.grownN hb hg (.inr trivial) (v := v) (fs' := fs ++ [n]) (by simpa [encN] using ho)
 have hf := q4 S hC
 have hsz : (w5.setCell ⟨l, 3, none⟩ v).heap.size = w5.heap.size := by simp
 refine ⟨q1, q2, ⟨v, av, us, q3, ⟨.inl hC.cl, fun k hk => ?_, fun k hk => .inl (hC.ca k hk), fun u hu k hk => .inl (hC.cu u hu k hk)⟩, fun k hk => hk.elim (fun e => Nat.lt_of_lt_of_le (hlt k e) hf.size) (fun e => e.2)⟩, hf⟩
 rcases hbk with e | e
 · exact .inl (hC.cn k (by rw [← e]; exact hk))
 · have h5 := (ho.lt k hk).1
   rw [e] at hk
   cases hk
   exact .inr ⟨hb.size, by rw [hsz]; exact h5⟩
/-- Records more. -/
theorem RgM.pushA (h : RgM w l c dir room sf nv av fs us rs) (hC : CovR S l nv av us) (hlt : ∀ k, S k → k < w.heap.size) (hb : Below w.heap.size w Y) (hg : Y.grownBy w5 av.ownBlock) {v : Value} (ho : OwnO w5 24 v (rs.length + ps.length) (us ++ vs)) (hp : RecsAt w5 vs ps)
 (hn : ∀ u ∈ vs, ∀ k, u.ownBlock = some k → w.heap.size ≤ k) (hbk : v.ownBlock = av.ownBlock ∨ v.ownBlock = some Y.heap.size) :
 w5.cell? ⟨l, 4, none⟩ = some av ∧ w5.frozen? ⟨l, 4, none⟩ = false ∧ RgS (w5.setCell ⟨l, 4, none⟩ v) l c (Sx S w (w5.setCell ⟨l, 4, none⟩ v)) dir room sf fs (rs ++ ps) ∧ Fr S w (w5.setCell ⟨l, 4, none⟩ v) := by
 obtain ⟨q1, q2, q3, q4⟩ := h.grownA hb hg (v := v) (ps := ps) (vs := vs) (by rw [List.length_append]; exact ho) hp
 have hf := q4 S hC
 have hsz : (w5.setCell ⟨l, 4, none⟩ v).heap.size = w5.heap.size := by simp
 refine ⟨q1, q2, ⟨nv, v, us ++ vs, q3, ⟨.inl hC.cl, fun k hk => .inl (hC.cn k hk), fun k hk => ?_, fun u hu k hk => ?_⟩, fun k hk => hk.elim (fun e => Nat.lt_of_lt_of_le (hlt k e) hf.size) (fun e => e.2)⟩, hf⟩
 · rcases hbk with e | e
   · exact .inl (hC.ca k (by rw [← e]; exact hk))
   · have h5 := (ho.lt k hk).1
     rw [e] at hk
     cases hk
     exact .inr ⟨hb.size, by rw [hsz]; exact h5⟩
 · rcases List.mem_append.1 hu with hu | hu
   · exact .inl (hC.cu u hu k hk)
   · exact .inr ⟨hn u hu k hk, by rw [hsz]; exact (hp.lt u hu k hk).1⟩
end
theorem rec_new {Y Z : World} {ob : Option Nat} {b : Nat} {u : Value} {p : List UInt8} (ho : Own8 Y b 5 u p) (hob : ∀ k, ob = some k → k < b) (hg : Y.grownBy Z ob) : RecsAt Z [u] [p] := by
 refine ⟨rfl, fun i x r hx hr => ?_⟩
 cases i with
 | succ i => simp at hx
 | zero =>
  simp at hx hr
  subst hx hr
  refine ownsRow_mono (base := b) (ownsRow_keep ho fun k hk => ?_) (Nat.zero_le _)
  have h1 := World.ownsRow.lt ho k hk
  exact hg.block k h1.2 fun e => by have := hob k e.symm; omega
theorem RWS.mono {w : World} {c l : Nat} {T T' : Nat → Prop} {s : DS} {g : LG} (h : RWS w c l T s g) (ht : ∀ k, T k → T' k) (hl : ∀ k, T' k → k < w.heap.size) : RWS w c l T' s g := by
 obtain ⟨Sd, Sl, q1, q2, q3, q4, q5, q6⟩ := h
 exact ⟨Sd, Sl, q1, q2, q3, fun k hk => ht k (q4 k hk), fun k hk => ht k (q5 k hk), hl⟩
/-- Seen from an elder world. -/
theorem RWS.from {w w1 w2 : World} {c l : Nat} {T : Nat → Prop} {s : DS} {g : LG} (hb : Below w.heap.size w w1) (ht : ∀ k, T k → k < w.heap.size) (h : RWS w2 c l (Sx T w1 w2) s g) (hf : Fr T w1 w2) : RWS w2 c l (Sx T w w2) s g ∧ Fr T w w2 :=
 ⟨h.mono (fun k hk => hk.imp id fun e => ⟨Nat.le_trans hb.size e.1, e.2⟩) (Sx.lt (Nat.le_trans hb.size hf.size) ht), (Fr.of_new hb).trans hf⟩
def RAppPost (w : World) (c l : Nat) (T : Nat → Prop) (s : DS) (g : LG) (p : List UInt8) (e : Ending) (w' : World) : Prop :=
 e = .returned (.tuple #[.int .i64 (appN s g p), .int .i64 (appL s g p).e]) ∧ RWS w' c l (Sx T w w') (appL s g p).s (appL s g p).g ∧ Fr T w w'
/-- What stands ahead of the frame's write. -/
structure RTurnAt (B : Int) (w : World) (c l : Nat) (T : Nat → Prop) (s : DS) (g : LG) (p : List UInt8) (sx : DS) (gx : LG) (W : World) : Prop where
 lw : RWS W c l (Sx T w W) sx gx
 fr : Fr T w W
 ok : LOk sx gx
 dok : DOk B sx
 ap : appL s g p = putL sx gx p
 nx : gx.next = g.next
 t0 : ∀ k, T k → k < w.heap.size
theorem rput_post {B : Int} {w wx W : World} {c l : Nat} {T Sd Sl : Nat → Prop} {s sx : DS} {g gx : LG} {p : List UInt8} (h : RTurnAt B w c l T s g p sx gx wx) {rs : List (List UInt8)} {e : Int} (he : (appendS sx gx.lnm (frameOf p)).2 = e)
 (hA : RAt wx (Sx T w wx) c l Sd Sl (appendS sx gx.lnm (frameOf p)).1 gx.dir gx.room gx.sf gx.nums rs W) (h3 : e = 0 → rs = gx.all ++ [p]) (h4 : e ≠ 0 → rs = gx.all) {n : Int} (h5 : e = 0 → n = (g.next : Nat)) (h6 : e ≠ 0 → n = 0) :
 RAppPost w c l T s g p (.returned (.tuple #[.int .i64 n, .int .i64 e])) W := by
 by_cases h0 : e = 0
 · have hp : putL sx gx p = ⟨(appendS sx gx.lnm (frameOf p)).1, { gx with la := ⟨gx.la.f, gx.la.rs ++ [p]⟩ }, 0⟩ := by unfold putL; rw [if_pos (he.trans h0)]
   have hap' := h.ap.trans hp
   unfold RAppPost appN
   rw [hap']
   obtain ⟨n1, n2⟩ := put_nums (g := gx) (p := p) 0
   obtain ⟨q1, q2⟩ := RAt.fin (g := { gx with la := ⟨gx.la.f, gx.la.rs ++ [p]⟩ }) (by rw [n1, n2, ← h3 h0]; exact hA)
   obtain ⟨r1, r2⟩ := RWS.trans h.fr q1 q2 h.t0
   refine ⟨?_, r1, r2⟩
   rw [h0, h5 h0, if_pos rfl]
 · have hp : putL sx gx p = ⟨(appendS sx gx.lnm (frameOf p)).1, gx, e⟩ := by unfold putL; rw [if_neg (fun e' => h0 (he.symm.trans e')), he]
   have hap' := h.ap.trans hp
   unfold RAppPost appN
   rw [hap']
   obtain ⟨q1, q2⟩ := RAt.fin (g := gx) (by rw [h4 h0] at hA; exact hA)
   obtain ⟨r1, r2⟩ := RWS.trans h.fr q1 q2 h.t0
   refine ⟨?_, r1, r2⟩
   rw [h6 h0, if_neg h0]
end Go.Proofs.YtjjcilinghgphaaGreat

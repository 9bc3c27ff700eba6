/-
 An operation of both logs (racelaw7.both.does): of the disk, Open, Sync, Trim.
 An operation of both logs (racelaw7.both.does): Append, Read, From; all of them.
-/
import Derived.Test.YtjjcilinghgphaaGreatUD
/-! ### An operation of both logs (racelaw7.both.does): of the disk, Open, Sync, Trim. -/
namespace Go.Proofs.YtjjcilinghgphaaGreat
open Go.RowKit Go.Maps Go.Sort
set_option maxRecDepth 100000
attribute [local go_sem] bs_size bs_toList
/-- Both logs beside one another, beside the operation's block: each side in a state of its own. -/
structure PT (W0 : World) (B : Int) (q d c : Nat) (dir : List UInt8) (room : Int) (s : DS) (og : Option LG) (s' : DS) (og' : Option LG) (T T' : Nat → Prop) (pl pm : Option Addr) (pb : Nat) (cs : Array Value) (W : World) : Prop where
 ab : AB W0 T T' W
 rb : RB T T' q d c pl pm dir room W
 ro : RowAt T T' pb cs 48 W
 sl : SideL B W d pl T s og
 sr : SideR W c pm T' s' og'
 q0 : W0.heap.size ≤ q
section
variable {W0 W W' : World} {B B' : Int} {T T' : Nat → Prop} {q d c pb : Nat} {dir : List UInt8} {room : Int} {s s' s2 : DS} {og og' og2 : Option LG} {pl pm : Option Addr} {cs : Array Value}
theorem BT.pt (h : BT W0 B q d c dir room s og T T' pl pm W) (cs : Array Value) : PT W0 B q d c dir room s og s og T T' pl pm W.heap.size cs (W.alloc (.cells cs 48)) := by
 have hb : Below W.heap.size W (W.alloc (.cells cs 48)) := (Below.refl _ _).alloc (Nat.le_refl _) _
 exact ⟨h.ab.new hb, h.rb.new hb, h.ab.fresh cs _, h.sl.new hb, h.sr.new hb, h.q0⟩
theorem PT.new (h : PT W0 B q d c dir room s og s' og' T T' pl pm pb cs W) (hb : Below W.heap.size W W') : PT W0 B q d c dir room s og s' og' T T' pl pm pb cs W' := ⟨h.ab.new hb, h.rb.new hb, h.ro.new hb, h.sl.new hb, h.sr.new hb, h.q0⟩
theorem PT.stepL (h : PT W0 B q d c dir room s og s' og' T T' pl pm pb cs W) (k : SideL B' W' d pl (Sx T W W') s2 og2) (hf : Fr T W W') : PT W0 B' q d c dir room s2 og2 s' og' (Sx T W W') T' pl pm pb cs W' :=
 ⟨h.ab.stepL hf, h.rb.stepL hf, h.ro.stepL hf, k, h.sr.keep hf fun k hk e => h.ab.dj k e hk, h.q0⟩
theorem PT.stepR (h : PT W0 B q d c dir room s og s' og' T T' pl pm pb cs W) (k : SideR W' c pm (Sx T' W W') s2 og2) (hf : Fr T' W W') : PT W0 B q d c dir room s og s2 og2 T (Sx T' W W') pl pm pb cs W' :=
 ⟨h.ab.stepR hf, h.rb.stepR hf, h.ro.stepR hf, h.sl.keep hf h.ab.dj, k, h.q0⟩
theorem PT.bb (h : PT W0 B q d c dir room s og s og T T' pl pm pb cs W) : BB W0 B q d c dir room s og W := ⟨T, T', pl, pm, h.ab, h.rb, h.sl, h.sr, h.q0⟩
theorem PT.mono (h : PT W0 B q d c dir room s og s' og' T T' pl pm pb cs W) (hB : B ≤ B') : PT W0 B' q d c dir room s og s' og' T T' pl pm pb cs W := ⟨h.ab, h.rb, h.ro, h.sl.mono hB, h.sr, h.q0⟩
theorem PT.cq (h : PT W0 B q d c dir room s og s' og' T T' pl pm pb cs W) : W.cell? ⟨q, 0, none⟩ = some (.pointer (some ⟨d, 0, none⟩)) ∧ W.cell? ⟨q, 1, none⟩ = some (.pointer (some ⟨c, 0, none⟩)) ∧ W.cell? ⟨q, 2, none⟩ = some (.pointer pl) ∧ W.cell? ⟨q, 3, none⟩ = some (.pointer pm) :=
 ⟨by rw [h.rb.cell]; rfl, by rw [h.rb.cell]; rfl, by rw [h.rb.cell]; rfl, by rw [h.rb.cell]; rfl⟩
theorem PT.co (h : PT W0 B q d c dir room s og s' og' T T' pl pm pb cs W) (j : Nat) : W.cell? ⟨pb, j, none⟩ = cs[j]? := h.ro.cell j
theorem SideL.lok (h : SideL B W d pl T s og) : ∀ g, og = some g → LOk s g := by
 rintro g rfl
 obtain ⟨_, _, _, h⟩ := h
 exact h
end
theorem LOk.arm {s : DS} {g : LG} (h : LOk s g) (n : Int) : LOk (armS s n) g := by
 unfold armS
 split
 · exact h
 · exact ⟨h.d1, h.d2, h.r1, h.r2, h.num, h.chain, h.rise, h.dat, h.sfl⟩
theorem LOk.made {s : DS} {g : LG} (h : LOk s g) {n : List UInt8} (hn : n.length ≤ 4) : LOk (createS s n).1 g := by
 have hne : g.lnm ≠ n := fun e => by
  have h1 := segN_length g.dir g.la.f
  have h2 : g.lnm.length = g.dir.length + 9 := h1
  rw [e] at h2
  omega
 refine ⟨h.d1, h.d2, h.r1, h.r2, h.num, h.chain, h.rise, fun hd => ?_, h.sfl⟩
 by_cases h0 : (createS s n).2 = 0
 · obtain ⟨k1, k2, k3, k4⟩ := errW_did h0
   show (getF g.lnm (errW s (creE s n) _).1.fs).map Fl.dt = _
   rw [k3]
   show (getF g.lnm (insF ⟨n, [], 0⟩ (fallS s).1.fs)).map Fl.dt = _
   rw [k4, get_ins_other hne]
   exact h.dat k1
 · obtain ⟨k1, k2⟩ := errW_keep h0
   show (getF g.lnm (errW s (creE s n) _).1.fs).map Fl.dt = _
   rw [k1]
   exact h.dat (k2 hd)
abbrev opwV (o : OpW) (ab : Option Addr) (cb : Nat) (ap : Option Addr) (cp : Nat) : Value := .agg #[.int .i64 o.k, .int .i64 o.n, .int .i64 o.m, .slice ab o.b.length cb, .string (bs o.nm), .slice ap o.p.length cp]
def DPost (W0 : World) (B : Int) (q d c : Nat) (dir : List UInt8) (room : Int) (e : Ending) (W' : World) : Prop := e = .returned (.bool true) ∧ ∃ s og, BB W0 (B + 100000003) q d c dir room s og W'
set_option maxHeartbeats 4000000 in
theorem kd_6 {W0 w : World} {B : Int} {q d c : Nat} {dir : List UInt8} {room : Int} {s : DS} {og : Option LG} (h : BB W0 B q d c dir room s og w) (hB : B < 900000000000) (hd : dir.length ≤ 1000000) {o : OpW} {ab : Option Addr} {cb : Nat} {ap : Option Addr} {cp : Nat} (ho : OpwRd W0 (fun b => b < W0.heap.size) o ab cb ap cp) (hk : o.k = 6) :
 Calls Tryz.prog 14 #[.pointer (some ⟨q, 0, none⟩), opwV o ab cb ap cp] w (DPost W0 B q d c dir room) := by
 obtain ⟨T, T', pl, pm, hT⟩ := h
 have HIO := Lib.hid (SideL.isnone hT.sl hT.sr)
 have hP := hT.pt #[.int .i64 o.k, .int .i64 o.n, .int .i64 o.m, .slice ab o.b.length cb, .string (bs o.nm), .slice ap o.p.length cp]
 obtain ⟨X, hX⟩ : ∃ X, w.alloc (.cells #[.int .i64 o.k, .int .i64 o.n, .int .i64 o.m, .slice ab o.b.length cb, .string (bs o.nm), .slice ap o.p.length cp] 48) = X := ⟨_, rfl⟩
 rw [hX] at hP
 obtain ⟨pb, hpb⟩ : ∃ pb, w.heap.size = pb := ⟨_, rfl⟩
 rw [hpb] at hP
 have HO := Lib.hid ho
 have HBD := Lib.hid hB
 have HDL := Lib.hid hd
 unfold opwV
 rw [hk] at hX hP ⊢
 have HP := Lib.hid hP
 obtain ⟨c0, c1, c2, c3⟩ := hP.cq
 have x0 := hP.co 0
 have x1 := hP.co 1
 simp only [List.getElem?_toArray, List.getElem?_cons_zero] at x0
 simp only [List.getElem?_toArray, List.getElem?_cons_zero, List.getElem?_cons_succ] at x1
 clear hT hP ho hB hd HIO
 go_enter Tryz.func14, Tryz.ntmps14
 go_wp2_with fail
 clear hX hpb x0
 refine wp_region_ht 6 (fun W => W.cell? ⟨q, 0, none⟩ = some (.pointer (some ⟨d, 0, none⟩)) ∧ W.cell? ⟨pb, 1, none⟩ = some (.int .i64 o.n)) (by kernel_rfl) (by kernel_rfl) ?_ (fun hHeld => ?_)
 · exact ⟨c0, x1⟩
 try simp only [Act.put, List.setIfInBounds_toArray, List.set_cons_zero, List.set_cons_succ]
 refine wpHT_takeD (i := 0) (d := 24) (v := ?_) (by kernel_rfl) rfl rfl (by decide) (by kernel_rfl) (by kernel_rfl) (fun _ _ _ h => h) (Or.inl ⟨by kernel_rfl, ?_⟩) (by assumption) ?_
 rotate_left
 · intro w hSw; (try dsimp only at hSw); go_simp; (try with_reducible rfl)
 try simp only [Act.put, List.setIfInBounds_toArray, List.set_cons_zero, List.set_cons_succ]
 refine wpHT_takeD (i := 1) (d := 25) (v := ?_) (by kernel_rfl) rfl rfl (by decide) (by kernel_rfl) (by kernel_rfl) (fun _ _ _ h => h) (Or.inl ⟨by kernel_rfl, ?_⟩) (by assumption) ?_
 rotate_left
 · intro w hSw; (try dsimp only at hSw); go_simp; (try with_reducible rfl)
 try simp only [Act.put, List.setIfInBounds_toArray, List.set_cons_zero, List.set_cons_succ]
 refine wpHT_takeD (i := 2) (d := 26) (v := ?_) (by kernel_rfl) rfl rfl (by decide) (by kernel_rfl) (by kernel_rfl) (fun _ _ _ h => h) (Or.inl ⟨by kernel_rfl, ?_⟩) (by assumption) ?_
 rotate_left
 · intro w hSw; (try dsimp only at hSw); go_simp; (try with_reducible rfl)
 try simp only [Act.put, List.setIfInBounds_toArray, List.set_cons_zero, List.set_cons_succ]
 refine wpHT_takeD (i := 3) (d := 27) (v := ?_) (by kernel_rfl) rfl rfl (by decide) (by kernel_rfl) (by kernel_rfl) (fun _ _ _ h => h) (Or.inl ⟨by kernel_rfl, ?_⟩) (by assumption) ?_
 rotate_left
 · intro w hSw; (try dsimp only at hSw); go_simp; (try with_reducible rfl)
 try simp only [Act.put, List.setIfInBounds_toArray, List.set_cons_zero, List.set_cons_succ]
 refine wpHT_takeD (i := 4) (d := 28) (v := ?_) (by kernel_rfl) rfl rfl (by decide) (by kernel_rfl) (by kernel_rfl) (fun _ _ _ h => h) (Or.inl ⟨by kernel_rfl, ?_⟩) (by assumption) ?_
 rotate_left
 · intro w hSw; (try dsimp only at hSw); go_simp; (try with_reducible rfl)
 try simp only [Act.put, List.setIfInBounds_toArray, List.set_cons_zero, List.set_cons_succ]
 refine wpHT_takeD (i := 5) (d := 29) (v := ?_) (by kernel_rfl) rfl rfl (by decide) (by kernel_rfl) (by kernel_rfl) (fun _ _ _ h => h) (Or.inl ⟨by kernel_rfl, ?_⟩) (by assumption) ?_
 rotate_left
 · intro w hSw; (try dsimp only at hSw); go_simp; (try with_reducible rfl)
 try simp only [Act.put, List.setIfInBounds_toArray, List.set_cons_zero, List.set_cons_succ]
 refine wpHT_done (by kernel_rfl) ?_
 simp only [List.drop_succ_cons, List.drop_zero]
 clear hHeld
 have HP1 := Lib.hid (HP.out.new (Below.refl _ X).drew)
 obtain ⟨Sd, k1, k2, k3⟩ := HP1.out.sl.dk
 have K3 := Lib.hid k3
 clear k3 c0 c1 c2 c3 x1
 go_wp2_with fail
 go_at_call 8
 refine (arm_any d Sd B s o.n HO.out.1.2.1.2 X.drew k1).mono ?_
 rintro e W1 ⟨rfl, hd1⟩
 obtain ⟨g1, g2⟩ := K3.out B _ _ hd1 (fun g hg => (HP1.out.sl.lok g hg).arm o.n)
 have HP2 := Lib.hid (HP1.out.stepL g1 g2)
 clear hd1 g1 g2 k1
 obtain ⟨c0, c1, c2, c3⟩ := HP2.out.cq
 have x1 := HP2.out.co 1
 simp only [List.getElem?_toArray, List.getElem?_cons_zero, List.getElem?_cons_succ] at x1
 go_wp2_with fail
 clear c0 c2 c3
 refine wp_region_ht 6 (fun W => W.cell? ⟨q, 1, none⟩ = some (.pointer (some ⟨c, 0, none⟩)) ∧ W.cell? ⟨pb, 1, none⟩ = some (.int .i64 o.n)) (by kernel_rfl) (by kernel_rfl) ?_ (fun hHeld => ?_)
 · exact ⟨c1, x1⟩
 try simp only [Act.put, List.setIfInBounds_toArray, List.set_cons_zero, List.set_cons_succ]
 refine wpHT_takeD (i := 0) (d := 31) (v := ?_) (by kernel_rfl) rfl rfl (by decide) (by kernel_rfl) (by kernel_rfl) (fun _ _ _ h => h) (Or.inl ⟨by kernel_rfl, ?_⟩) (by assumption) ?_
 rotate_left
 · intro w hSw; (try dsimp only at hSw); go_simp; (try with_reducible rfl)
 try simp only [Act.put, List.setIfInBounds_toArray, List.set_cons_zero, List.set_cons_succ]
 refine wpHT_takeD (i := 1) (d := 32) (v := ?_) (by kernel_rfl) rfl rfl (by decide) (by kernel_rfl) (by kernel_rfl) (fun _ _ _ h => h) (Or.inl ⟨by kernel_rfl, ?_⟩) (by assumption) ?_
 rotate_left
 · intro w hSw; (try dsimp only at hSw); go_simp; (try with_reducible rfl)
 try simp only [Act.put, List.setIfInBounds_toArray, List.set_cons_zero, List.set_cons_succ]
 refine wpHT_takeD (i := 2) (d := 33) (v := ?_) (by kernel_rfl) rfl rfl (by decide) (by kernel_rfl) (by kernel_rfl) (fun _ _ _ h => h) (Or.inl ⟨by kernel_rfl, ?_⟩) (by assumption) ?_
 rotate_left
 · intro w hSw; (try dsimp only at hSw); go_simp; (try with_reducible rfl)
 try simp only [Act.put, List.setIfInBounds_toArray, List.set_cons_zero, List.set_cons_succ]
 refine wpHT_takeD (i := 3) (d := 34) (v := ?_) (by kernel_rfl) rfl rfl (by decide) (by kernel_rfl) (by kernel_rfl) (fun _ _ _ h => h) (Or.inl ⟨by kernel_rfl, ?_⟩) (by assumption) ?_
 rotate_left
 · intro w hSw; (try dsimp only at hSw); go_simp; (try with_reducible rfl)
 try simp only [Act.put, List.setIfInBounds_toArray, List.set_cons_zero, List.set_cons_succ]
 refine wpHT_takeD (i := 4) (d := 35) (v := ?_) (by kernel_rfl) rfl rfl (by decide) (by kernel_rfl) (by kernel_rfl) (fun _ _ _ h => h) (Or.inl ⟨by kernel_rfl, ?_⟩) (by assumption) ?_
 rotate_left
 · intro w hSw; (try dsimp only at hSw); go_simp; (try with_reducible rfl)
 try simp only [Act.put, List.setIfInBounds_toArray, List.set_cons_zero, List.set_cons_succ]
 refine wpHT_takeD (i := 5) (d := 36) (v := ?_) (by kernel_rfl) rfl rfl (by decide) (by kernel_rfl) (by kernel_rfl) (fun _ _ _ h => h) (Or.inl ⟨by kernel_rfl, ?_⟩) (by assumption) ?_
 rotate_left
 · intro w hSw; (try dsimp only at hSw); go_simp; (try with_reducible rfl)
 try simp only [Act.put, List.setIfInBounds_toArray, List.set_cons_zero, List.set_cons_succ]
 refine wpHT_done (by kernel_rfl) ?_
 simp only [List.drop_succ_cons, List.drop_zero]
 clear hHeld
 have HP3 := Lib.hid (HP2.out.new (Below.refl _ W1).drew)
 obtain ⟨Sr, j1, j2, j3⟩ := HP3.out.sr.rf
 have J3 := Lib.hid j3
 clear j3 c1 x1
 go_wp2_with fail
 go_at_call 9
 refine (rarm_any c Sr s o.n HO.out.1.2.1.1 HO.out.1.2.1.2 W1.drew j1).mono ?_
 rintro e W2 ⟨rfl, hr, hf⟩
 obtain ⟨g1, g2⟩ := J3.out _ _ (hr.grow (fun k hk => .inl hk) (Sx.lt hf.size j1.lt)) hf
 have HP4 := Lib.hid (HP3.out.stepR g1 g2)
 clear hr hf g1 g2 j1
 go_wp2_with fail
 go_ret
 exact ⟨rfl, _, _, (HP4.out.mono (by omega)).bb⟩
set_option maxHeartbeats 4000000 in
theorem kd_7 {W0 w : World} {B : Int} {q d c : Nat} {dir : List UInt8} {room : Int} {s : DS} {og : Option LG} (h : BB W0 B q d c dir room s og w) (hB : B < 900000000000) (hd : dir.length ≤ 1000000) {o : OpW} {ab : Option Addr} {cb : Nat} {ap : Option Addr} {cp : Nat} (ho : OpwRd W0 (fun b => b < W0.heap.size) o ab cb ap cp) (hk : o.k = 7) :
 Calls Tryz.prog 14 #[.pointer (some ⟨q, 0, none⟩), opwV o ab cb ap cp] w (DPost W0 B q d c dir room) := by
 obtain ⟨T, T', pl, pm, hT⟩ := h
 have HIO := Lib.hid (SideL.isnone hT.sl hT.sr)
 have hP := hT.pt #[.int .i64 o.k, .int .i64 o.n, .int .i64 o.m, .slice ab o.b.length cb, .string (bs o.nm), .slice ap o.p.length cp]
 obtain ⟨X, hX⟩ : ∃ X, w.alloc (.cells #[.int .i64 o.k, .int .i64 o.n, .int .i64 o.m, .slice ab o.b.length cb, .string (bs o.nm), .slice ap o.p.length cp] 48) = X := ⟨_, rfl⟩
 rw [hX] at hP
 obtain ⟨pb, hpb⟩ : ∃ pb, w.heap.size = pb := ⟨_, rfl⟩
 rw [hpb] at hP
 have HO := Lib.hid ho
 have HBD := Lib.hid hB
 have HDL := Lib.hid hd
 unfold opwV
 rw [hk] at hX hP ⊢
 have HP := Lib.hid hP
 obtain ⟨c0, c1, c2, c3⟩ := hP.cq
 have x0 := hP.co 0
 have x5 := hP.co 5
 simp only [List.getElem?_toArray, List.getElem?_cons_zero] at x0
 simp only [List.getElem?_toArray, List.getElem?_cons_zero, List.getElem?_cons_succ] at x5
 clear hT hP ho hB hd HIO
 go_enter Tryz.func14, Tryz.ntmps14
 go_wp2_with fail
 clear hX hpb x0
 refine wp_region_ht 6 (fun W => W.cell? ⟨q, 0, none⟩ = some (.pointer (some ⟨d, 0, none⟩)) ∧ W.cell? ⟨pb, 5, none⟩ = some (.slice ap o.p.length cp)) (by kernel_rfl) (by kernel_rfl) ?_ (fun hHeld => ?_)
 · exact ⟨c0, x5⟩
 try simp only [Act.put, List.setIfInBounds_toArray, List.set_cons_zero, List.set_cons_succ]
 refine wpHT_takeD (i := 0) (d := 42) (v := ?_) (by kernel_rfl) rfl rfl (by decide) (by kernel_rfl) (by kernel_rfl) (fun _ _ _ h => h) (Or.inl ⟨by kernel_rfl, ?_⟩) (by assumption) ?_
 rotate_left
 · intro w hSw; (try dsimp only at hSw); go_simp; (try with_reducible rfl)
 try simp only [Act.put, List.setIfInBounds_toArray, List.set_cons_zero, List.set_cons_succ]
 refine wpHT_takeD (i := 1) (d := 43) (v := ?_) (by kernel_rfl) rfl rfl (by decide) (by kernel_rfl) (by kernel_rfl) (fun _ _ _ h => h) (Or.inl ⟨by kernel_rfl, ?_⟩) (by assumption) ?_
 rotate_left
 · intro w hSw; (try dsimp only at hSw); go_simp; (try with_reducible rfl)
 try simp only [Act.put, List.setIfInBounds_toArray, List.set_cons_zero, List.set_cons_succ]
 refine wpHT_takeD (i := 2) (d := 44) (v := ?_) (by kernel_rfl) rfl rfl (by decide) (by kernel_rfl) (by kernel_rfl) (fun _ _ _ h => h) (Or.inl ⟨by kernel_rfl, ?_⟩) (by assumption) ?_
 rotate_left
 · intro w hSw; (try dsimp only at hSw); go_simp; (try with_reducible rfl)
 try simp only [Act.put, List.setIfInBounds_toArray, List.set_cons_zero, List.set_cons_succ]
 refine wpHT_takeD (i := 3) (d := 45) (v := ?_) (by kernel_rfl) rfl rfl (by decide) (by kernel_rfl) (by kernel_rfl) (fun _ _ _ h => h) (Or.inl ⟨by kernel_rfl, ?_⟩) (by assumption) ?_
 rotate_left
 · intro w hSw; (try dsimp only at hSw); go_simp; (try with_reducible rfl)
 try simp only [Act.put, List.setIfInBounds_toArray, List.set_cons_zero, List.set_cons_succ]
 refine wpHT_takeD (i := 4) (d := 46) (v := ?_) (by kernel_rfl) rfl rfl (by decide) (by kernel_rfl) (by kernel_rfl) (fun _ _ _ h => h) (Or.inl ⟨by kernel_rfl, ?_⟩) (by assumption) ?_
 rotate_left
 · intro w hSw; (try dsimp only at hSw); go_simp; (try with_reducible rfl)
 try simp only [Act.put, List.setIfInBounds_toArray, List.set_cons_zero, List.set_cons_succ]
 refine wpHT_takeD (i := 5) (d := 47) (v := ?_) (by kernel_rfl) rfl rfl (by decide) (by kernel_rfl) (by kernel_rfl) (fun _ _ _ h => h) (Or.inl ⟨by kernel_rfl, ?_⟩) (by assumption) ?_
 rotate_left
 · intro w hSw; (try dsimp only at hSw); go_simp; (try with_reducible rfl)
 try simp only [Act.put, List.setIfInBounds_toArray, List.set_cons_zero, List.set_cons_succ]
 refine wpHT_done (by kernel_rfl) ?_
 simp only [List.drop_succ_cons, List.drop_zero]
 clear hHeld
 have HP1 := Lib.hid (HP.out.new (Below.refl _ X).drew)
 have HPK : Hid (∀ W, Below W0.heap.size W0 W → RdI W ap o.p.length cp o.p) := fun W hW => HO.out.2.2.1.below hW
 clear c0 c1 c2 c3 x5
 go_wp2_with fail
 go_at_call 37
 refine (crash_any d T B s ap _ cp o.p X.drew HP1.out.sl.all (HPK.out _ HP1.out.ab.bl) (fun h0 b hb e => by have h1 := HO.out.2.2.2.2 h0 b hb; have h2 := HP1.out.ab.t0 b e; omega)).mono ?_
 rintro e W1 ⟨rfl, hd1⟩
 have hA := HP1.out.ab.stepL hd1.2
 have hR := HP1.out.rb.stepL hd1.2
 have hQ := HP1.out.ro.stepL hd1.2
 have hF := HP1.out.sr.all.keep hd1.2 (fun k hk e => HP1.out.ab.dj k e hk)
 have hD := hd1.1
 obtain ⟨T1, hT1⟩ : ∃ T1, Sx T X.drew W1 = T1 := ⟨_, rfl⟩
 rw [hT1] at hA hR hQ hD
 have HA := Lib.hid hA
 have HR := Lib.hid hR
 have HF := Lib.hid hF
 have HD := Lib.hid hD
 have c1 : W1.cell? ⟨q, 1, none⟩ = some (.pointer (some ⟨c, 0, none⟩)) := by rw [hR.cell]; rfl
 have x5 : W1.cell? ⟨pb, 5, none⟩ = some (.slice ap o.p.length cp) := by rw [hQ.cell]; rfl
 have HOKS := Lib.hid HP1.out.sl.ok
 clear hA hR hQ hF hD hd1 hT1
 go_wp2_with fail
 refine wp_region_ht 6 (fun W => W.cell? ⟨q, 1, none⟩ = some (.pointer (some ⟨c, 0, none⟩)) ∧ W.cell? ⟨pb, 5, none⟩ = some (.slice ap o.p.length cp)) (by kernel_rfl) (by kernel_rfl) ?_ (fun hHeld => ?_)
 · exact ⟨c1, x5⟩
 try simp only [Act.put, List.setIfInBounds_toArray, List.set_cons_zero, List.set_cons_succ]
 refine wpHT_takeD (i := 0) (d := 49) (v := ?_) (by kernel_rfl) rfl rfl (by decide) (by kernel_rfl) (by kernel_rfl) (fun _ _ _ h => h) (Or.inl ⟨by kernel_rfl, ?_⟩) (by assumption) ?_
 rotate_left
 · intro w hSw; (try dsimp only at hSw); go_simp; (try with_reducible rfl)
 try simp only [Act.put, List.setIfInBounds_toArray, List.set_cons_zero, List.set_cons_succ]
 refine wpHT_takeD (i := 1) (d := 50) (v := ?_) (by kernel_rfl) rfl rfl (by decide) (by kernel_rfl) (by kernel_rfl) (fun _ _ _ h => h) (Or.inl ⟨by kernel_rfl, ?_⟩) (by assumption) ?_
 rotate_left
 · intro w hSw; (try dsimp only at hSw); go_simp; (try with_reducible rfl)
 try simp only [Act.put, List.setIfInBounds_toArray, List.set_cons_zero, List.set_cons_succ]
 refine wpHT_takeD (i := 2) (d := 51) (v := ?_) (by kernel_rfl) rfl rfl (by decide) (by kernel_rfl) (by kernel_rfl) (fun _ _ _ h => h) (Or.inl ⟨by kernel_rfl, ?_⟩) (by assumption) ?_
 rotate_left
 · intro w hSw; (try dsimp only at hSw); go_simp; (try with_reducible rfl)
 try simp only [Act.put, List.setIfInBounds_toArray, List.set_cons_zero, List.set_cons_succ]
 refine wpHT_takeD (i := 3) (d := 52) (v := ?_) (by kernel_rfl) rfl rfl (by decide) (by kernel_rfl) (by kernel_rfl) (fun _ _ _ h => h) (Or.inl ⟨by kernel_rfl, ?_⟩) (by assumption) ?_
 rotate_left
 · intro w hSw; (try dsimp only at hSw); go_simp; (try with_reducible rfl)
 try simp only [Act.put, List.setIfInBounds_toArray, List.set_cons_zero, List.set_cons_succ]
 refine wpHT_takeD (i := 4) (d := 53) (v := ?_) (by kernel_rfl) rfl rfl (by decide) (by kernel_rfl) (by kernel_rfl) (fun _ _ _ h => h) (Or.inl ⟨by kernel_rfl, ?_⟩) (by assumption) ?_
 rotate_left
 · intro w hSw; (try dsimp only at hSw); go_simp; (try with_reducible rfl)
 try simp only [Act.put, List.setIfInBounds_toArray, List.set_cons_zero, List.set_cons_succ]
 refine wpHT_takeD (i := 5) (d := 54) (v := ?_) (by kernel_rfl) rfl rfl (by decide) (by kernel_rfl) (by kernel_rfl) (fun _ _ _ h => h) (Or.inl ⟨by kernel_rfl, ?_⟩) (by assumption) ?_
 rotate_left
 · intro w hSw; (try dsimp only at hSw); go_simp; (try with_reducible rfl)
 try simp only [Act.put, List.setIfInBounds_toArray, List.set_cons_zero, List.set_cons_succ]
 refine wpHT_done (by kernel_rfl) ?_
 simp only [List.drop_succ_cons, List.drop_zero]
 clear hHeld
 have hb := (Below.refl W1.heap.size W1).drew
 clear c1 x5
 go_wp2_with fail
 go_at_call 38
 refine (rcrash_any c T' B s ap _ cp o.p HOKS.out W1.drew (HF.out.below hb) (HPK.out _ (HA.out.new hb).bl) (fun h0 b hb e => by have h1 := HO.out.2.2.2.2 h0 b hb; have h2 := HA.out.t1 b e; omega)).mono ?_
 rintro e W2 ⟨rfl, hr, hf⟩
 have HBDD : Hid (BD W0 B q d c dir room (crashS s o.p) T1 (Sx T' W1.drew W2) pl pm W2) := ⟨(HA.out.new hb).stepR hf, (HR.out.new hb).stepR hf, (HD.out.below hb).keep hf (HA.out.dj), hr, HP.out.q0⟩
 clear hr hf hb
 go_wp2_with fail
 go_at_call 10
 refine (opens_any HBDD.out (by have := HBD.out; omega) HDL.out).mono ?_
 rintro e W3 ⟨rfl, hbb⟩
 have HBB := Lib.hid hbb
 clear hbb
 go_wp2_with fail
 go_ret
 exact ⟨rfl, _, _, HBB.out.mono (by omega)⟩
set_option maxHeartbeats 4000000 in
theorem kd_8 {W0 w : World} {B : Int} {q d c : Nat} {dir : List UInt8} {room : Int} {s : DS} {og : Option LG} (h : BB W0 B q d c dir room s og w) (hB : B < 900000000000) (hd : dir.length ≤ 1000000) {o : OpW} {ab : Option Addr} {cb : Nat} {ap : Option Addr} {cp : Nat} (ho : OpwRd W0 (fun b => b < W0.heap.size) o ab cb ap cp) (hk : o.k = 8) :
 Calls Tryz.prog 14 #[.pointer (some ⟨q, 0, none⟩), opwV o ab cb ap cp] w (DPost W0 B q d c dir room) := by
 obtain ⟨T, T', pl, pm, hT⟩ := h
 have HIO := Lib.hid (SideL.isnone hT.sl hT.sr)
 have hP := hT.pt #[.int .i64 o.k, .int .i64 o.n, .int .i64 o.m, .slice ab o.b.length cb, .string (bs o.nm), .slice ap o.p.length cp]
 obtain ⟨X, hX⟩ : ∃ X, w.alloc (.cells #[.int .i64 o.k, .int .i64 o.n, .int .i64 o.m, .slice ab o.b.length cb, .string (bs o.nm), .slice ap o.p.length cp] 48) = X := ⟨_, rfl⟩
 rw [hX] at hP
 obtain ⟨pb, hpb⟩ : ∃ pb, w.heap.size = pb := ⟨_, rfl⟩
 rw [hpb] at hP
 have HO := Lib.hid ho
 have HBD := Lib.hid hB
 have HDL := Lib.hid hd
 unfold opwV
 rw [hk] at hX hP ⊢
 have HP := Lib.hid hP
 obtain ⟨c0, c1, c2, c3⟩ := hP.cq
 have x0 := hP.co 0
 simp only [List.getElem?_toArray, List.getElem?_cons_zero] at x0
 clear hT hP ho hB hd HIO
 go_enter Tryz.func14, Tryz.ntmps14
 go_wp2_with fail
 go_at_call 10
 clear hX hpb x0 c0 c1 c2 c3
 refine (opens_any ⟨HP.out.ab, HP.out.rb, HP.out.sl.all, HP.out.sr.all, HP.out.q0⟩ (by have := HBD.out; omega) HDL.out).mono ?_
 rintro e W1 ⟨rfl, hbb⟩
 have HBB := Lib.hid hbb
 clear hbb
 go_wp2_with fail
 go_ret
 exact ⟨rfl, _, _, HBB.out.mono (by omega)⟩
set_option maxHeartbeats 4000000 in
theorem kd_9 {W0 w : World} {B : Int} {q d c : Nat} {dir : List UInt8} {room : Int} {s : DS} {og : Option LG} (h : BB W0 B q d c dir room s og w) (hB : B < 900000000000) (hd : dir.length ≤ 1000000) {o : OpW} {ab : Option Addr} {cb : Nat} {ap : Option Addr} {cp : Nat} (ho : OpwRd W0 (fun b => b < W0.heap.size) o ab cb ap cp) (hk : o.k = 9) (hn : o.nm.length ≤ 4) :
 Calls Tryz.prog 14 #[.pointer (some ⟨q, 0, none⟩), opwV o ab cb ap cp] w (DPost W0 B q d c dir room) := by
 obtain ⟨T, T', pl, pm, hT⟩ := h
 have HIO := Lib.hid (SideL.isnone hT.sl hT.sr)
 have hP := hT.pt #[.int .i64 o.k, .int .i64 o.n, .int .i64 o.m, .slice ab o.b.length cb, .string (bs o.nm), .slice ap o.p.length cp]
 obtain ⟨X, hX⟩ : ∃ X, w.alloc (.cells #[.int .i64 o.k, .int .i64 o.n, .int .i64 o.m, .slice ab o.b.length cb, .string (bs o.nm), .slice ap o.p.length cp] 48) = X := ⟨_, rfl⟩
 rw [hX] at hP
 obtain ⟨pb, hpb⟩ : ∃ pb, w.heap.size = pb := ⟨_, rfl⟩
 rw [hpb] at hP
 have HO := Lib.hid ho
 have HBD := Lib.hid hB
 have HDL := Lib.hid hd
 have HN4 := Lib.hid hn
 unfold opwV
 rw [hk] at hX hP ⊢
 have HP := Lib.hid hP
 obtain ⟨c0, c1, c2, c3⟩ := hP.cq
 have x0 := hP.co 0
 have x4 := hP.co 4
 simp only [List.getElem?_toArray, List.getElem?_cons_zero] at x0
 simp only [List.getElem?_toArray, List.getElem?_cons_zero, List.getElem?_cons_succ] at x4
 clear hT hP ho hB hd HIO hn
 go_enter Tryz.func14, Tryz.ntmps14
 obtain ⟨r, hr⟩ : ∃ r, (createS s o.nm).2 = r := ⟨_, rfl⟩
 have HR := Lib.hid hr
 clear hr
 go_wp2_with fail
 clear hX hpb x0
 refine wp_region_ht 14 (fun W => W.cell? ⟨q, 0, none⟩ = some (.pointer (some ⟨d, 0, none⟩)) ∧ W.cell? ⟨q, 1, none⟩ = some (.pointer (some ⟨c, 0, none⟩)) ∧ W.cell? ⟨pb, 4, none⟩ = some (.string (bs o.nm))) (by kernel_rfl) (by kernel_rfl) ?_ (fun hHeld => ?_)
 · exact ⟨c0, c1, x4⟩
 try simp only [Act.put, List.setIfInBounds_toArray, List.set_cons_zero, List.set_cons_succ]
 refine wpHT_takeD (i := 0) (d := 68) (v := ?_) (by kernel_rfl) rfl rfl (by decide) (by kernel_rfl) (by kernel_rfl) (fun _ _ _ h => h) (Or.inl ⟨by kernel_rfl, ?_⟩) (by assumption) ?_
 rotate_left
 · intro w hSw; (try dsimp only at hSw); go_simp; (try with_reducible rfl)
 try simp only [Act.put, List.setIfInBounds_toArray, List.set_cons_zero, List.set_cons_succ]
 refine wpHT_takeD (i := 1) (d := 69) (v := ?_) (by kernel_rfl) rfl rfl (by decide) (by kernel_rfl) (by kernel_rfl) (fun _ _ _ h => h) (Or.inl ⟨by kernel_rfl, ?_⟩) (by assumption) ?_
 rotate_left
 · intro w hSw; (try dsimp only at hSw); go_simp; (try with_reducible rfl)
 try simp only [Act.put, List.setIfInBounds_toArray, List.set_cons_zero, List.set_cons_succ]
 refine wpHT_takeD (i := 2) (d := 70) (v := ?_) (by kernel_rfl) rfl rfl (by decide) (by kernel_rfl) (by kernel_rfl) (fun _ _ _ h => h) (Or.inl ⟨by kernel_rfl, ?_⟩) (by assumption) ?_
 rotate_left
 · intro w hSw; (try dsimp only at hSw); go_simp; (try with_reducible rfl)
 try simp only [Act.put, List.setIfInBounds_toArray, List.set_cons_zero, List.set_cons_succ]
 refine wpHT_takeD (i := 3) (d := 71) (v := ?_) (by kernel_rfl) rfl rfl (by decide) (by kernel_rfl) (by kernel_rfl) (fun _ _ _ h => h) (Or.inl ⟨by kernel_rfl, ?_⟩) (by assumption) ?_
 rotate_left
 · intro w hSw; (try dsimp only at hSw); go_simp; (try with_reducible rfl)
 try simp only [Act.put, List.setIfInBounds_toArray, List.set_cons_zero, List.set_cons_succ]
 refine wpHT_takeD (i := 4) (d := 72) (v := ?_) (by kernel_rfl) rfl rfl (by decide) (by kernel_rfl) (by kernel_rfl) (fun _ _ _ h => h) (Or.inl ⟨by kernel_rfl, ?_⟩) (by assumption) ?_
 rotate_left
 · intro w hSw; (try dsimp only at hSw); go_simp; (try with_reducible rfl)
 try simp only [Act.put, List.setIfInBounds_toArray, List.set_cons_zero, List.set_cons_succ]
 refine wpHT_takeD (i := 5) (d := 73) (v := ?_) (by kernel_rfl) rfl rfl (by decide) (by kernel_rfl) (by kernel_rfl) (fun _ _ _ h => h) (Or.inl ⟨by kernel_rfl, ?_⟩) (by assumption) ?_
 rotate_left
 · intro w hSw; (try dsimp only at hSw); go_simp; (try with_reducible rfl)
 try simp only [Act.put, List.setIfInBounds_toArray, List.set_cons_zero, List.set_cons_succ]
 refine wpHT_takeD (i := 7) (d := 75) (v := ?_) (by kernel_rfl) rfl rfl (by decide) (by kernel_rfl) (by kernel_rfl) (fun _ _ _ h => h) (Or.inl ⟨by kernel_rfl, ?_⟩) (by assumption) ?_
 rotate_left
 · intro w hSw; (try dsimp only at hSw); go_simp; (try with_reducible rfl)
 try simp only [Act.put, List.setIfInBounds_toArray, List.set_cons_zero, List.set_cons_succ]
 refine wpHT_takeD (i := 8) (d := 76) (v := ?_) (by kernel_rfl) rfl rfl (by decide) (by kernel_rfl) (by kernel_rfl) (fun _ _ _ h => h) (Or.inl ⟨by kernel_rfl, ?_⟩) (by assumption) ?_
 rotate_left
 · intro w hSw; (try dsimp only at hSw); go_simp; (try with_reducible rfl)
 try simp only [Act.put, List.setIfInBounds_toArray, List.set_cons_zero, List.set_cons_succ]
 refine wpHT_takeD (i := 9) (d := 77) (v := ?_) (by kernel_rfl) rfl rfl (by decide) (by kernel_rfl) (by kernel_rfl) (fun _ _ _ h => h) (Or.inl ⟨by kernel_rfl, ?_⟩) (by assumption) ?_
 rotate_left
 · intro w hSw; (try dsimp only at hSw); go_simp; (try with_reducible rfl)
 try simp only [Act.put, List.setIfInBounds_toArray, List.set_cons_zero, List.set_cons_succ]
 refine wpHT_takeD (i := 10) (d := 78) (v := ?_) (by kernel_rfl) rfl rfl (by decide) (by kernel_rfl) (by kernel_rfl) (fun _ _ _ h => h) (Or.inl ⟨by kernel_rfl, ?_⟩) (by assumption) ?_
 rotate_left
 · intro w hSw; (try dsimp only at hSw); go_simp; (try with_reducible rfl)
 try simp only [Act.put, List.setIfInBounds_toArray, List.set_cons_zero, List.set_cons_succ]
 refine wpHT_takeD (i := 11) (d := 79) (v := ?_) (by kernel_rfl) rfl rfl (by decide) (by kernel_rfl) (by kernel_rfl) (fun _ _ _ h => h) (Or.inl ⟨by kernel_rfl, ?_⟩) (by assumption) ?_
 rotate_left
 · intro w hSw; (try dsimp only at hSw); go_simp; (try with_reducible rfl)
 try simp only [Act.put, List.setIfInBounds_toArray, List.set_cons_zero, List.set_cons_succ]
 refine wpHT_takeD (i := 12) (d := 80) (v := ?_) (by kernel_rfl) rfl rfl (by decide) (by kernel_rfl) (by kernel_rfl) (fun _ _ _ h => h) (Or.inl ⟨by kernel_rfl, ?_⟩) (by assumption) ?_
 rotate_left
 · intro w hSw; (try dsimp only at hSw); go_simp; (try with_reducible rfl)
 try simp only [Act.put, List.setIfInBounds_toArray, List.set_cons_zero, List.set_cons_succ]
 refine wpHT_one (i := 6) (by kernel_rfl) rfl (by decide) (fun K hK => ?_)
 go_simp
 go_at_call 39
 obtain ⟨Sd, k1, _, k3⟩ := (HP.out.new (Below.refl _ X).drew).sl.dk
 refine (create_any d Sd B (by have := HBD.out; omega) s o.nm HO.out.1.2.2.2 _ k1).mono ?_
 rintro e W1 ⟨rfl, hd1⟩
 rw [HR.out]
 obtain ⟨g1, g2⟩ := k3 (B + 1) _ _ hd1 (fun g hg => (HP.out.sl.lok g hg).made HN4.out)
 have HP2 := Lib.hid ((HP.out.new (Below.refl _ X).drew).stepL g1 g2)
 clear hd1 g1 g2 k1 k3
 obtain ⟨c0, c1, c2, c3⟩ := HP2.out.cq
 have x4 := HP2.out.co 4
 simp only [List.getElem?_toArray, List.getElem?_cons_zero, List.getElem?_cons_succ] at x4
 refine hK.out _ _ ?_ (fun hHeld => ?_)
 · exact ⟨c0, c1, x4⟩
 clear hK K
 try simp only [Act.put, List.setIfInBounds_toArray, List.set_cons_zero, List.set_cons_succ]
 refine wpHT_one (i := 13) (by kernel_rfl) rfl (by decide) (fun K hK => ?_)
 go_simp
 go_at_call 40
 obtain ⟨Sr, j1, _, j3⟩ := HP2.out.sr.rf
 refine (rcreate_any c Sr B (by have := HBD.out; omega) s o.nm HO.out.1.2.2.2 HP.out.sl.ok _ j1).mono ?_
 rintro e W2 ⟨rfl, hr2, hf2⟩
 rw [HR.out]
 obtain ⟨g1, g2⟩ := j3 _ _ hr2 hf2
 have HP3 := Lib.hid (HP2.out.stepR g1 g2)
 clear hr2 hf2 g1 g2 j1 j3
 obtain ⟨c0, c1, c2, c3⟩ := HP3.out.cq
 have x4 := HP3.out.co 4
 simp only [List.getElem?_toArray, List.getElem?_cons_zero, List.getElem?_cons_succ] at x4
 refine hK.out _ _ ?_ (fun hHeld => ?_)
 · exact ⟨c0, c1, x4⟩
 clear hK K
 try simp only [Act.put, List.setIfInBounds_toArray, List.set_cons_zero, List.set_cons_succ]
 refine wpHT_done (by kernel_rfl) ?_
 simp only [List.drop_succ_cons, List.drop_zero]
 clear hHeld c0 c1 c2 c3 x4
 go_wp2_with fail
 go_ret
 exact ⟨rfl, _, _, (HP3.out.mono (by omega)).bb⟩
set_option maxHeartbeats 4000000 in
theorem kd_none {W0 w : World} {B : Int} {q d c : Nat} {dir : List UInt8} {room : Int} {s : DS} {og : Option LG} (h : BB W0 B q d c dir room s og w) (hB : B < 900000000000) (hd : dir.length ≤ 1000000) {o : OpW} {ab : Option Addr} {cb : Nat} {ap : Option Addr} {cp : Nat} (ho : OpwRd W0 (fun b => b < W0.heap.size) o ab cb ap cp) (h6 : o.k ≠ 6) (h7 : o.k ≠ 7) (h8 : o.k ≠ 8) (h9 : o.k ≠ 9) (hg : og = none) :
 Calls Tryz.prog 14 #[.pointer (some ⟨q, 0, none⟩), opwV o ab cb ap cp] w (DPost W0 B q d c dir room) := by
 obtain ⟨T, T', pl, pm, hT⟩ := h
 have HIO := Lib.hid (SideL.isnone hT.sl hT.sr)
 have hP := hT.pt #[.int .i64 o.k, .int .i64 o.n, .int .i64 o.m, .slice ab o.b.length cb, .string (bs o.nm), .slice ap o.p.length cp]
 obtain ⟨X, hX⟩ : ∃ X, w.alloc (.cells #[.int .i64 o.k, .int .i64 o.n, .int .i64 o.m, .slice ab o.b.length cb, .string (bs o.nm), .slice ap o.p.length cp] 48) = X := ⟨_, rfl⟩
 rw [hX] at hP
 obtain ⟨pb, hpb⟩ : ∃ pb, w.heap.size = pb := ⟨_, rfl⟩
 rw [hpb] at hP
 have HO := Lib.hid ho
 have HBD := Lib.hid hB
 have HDL := Lib.hid hd
 have b6 : (o.k == 6) = false := by simpa using h6
 have b7 : (o.k == 7) = false := by simpa using h7
 have b8 : (o.k == 8) = false := by simpa using h8
 have b9 : (o.k == 9) = false := by simpa using h9
 obtain ⟨rfl, rfl, _⟩ : pl = none ∧ pm = none ∧ og = none := by
  rcases HIO.out with h | ⟨_, _, _, _, _, h, _⟩
  · exact h
  · rw [hg] at h; cases h
 have HP := Lib.hid hP
 obtain ⟨c0, c1, c2, c3⟩ := hP.cq
 have x0 := hP.co 0
 simp only [List.getElem?_toArray, List.getElem?_cons_zero] at x0
 clear hT hP ho hB hd HIO hg h6 h7 h8 h9
 go_enter Tryz.func14, Tryz.ntmps14
 obtain ⟨ok, hok⟩ : ∃ ok, o.k = ok := ⟨_, rfl⟩
 rw [hok] at x0 b6 b7 b8 b9 hX
 unfold opwV
 rw [hok]
 go_wp2_with fail
 go_ret
 exact ⟨rfl, _, _, (HP.out.mono (by omega)).bb⟩
set_option maxHeartbeats 4000000 in
theorem kd_0 {W0 w : World} {B : Int} {q d c : Nat} {dir : List UInt8} {room : Int} {s : DS} {og : Option LG} (h : BB W0 B q d c dir room s og w) (hB : B < 900000000000) (hd : dir.length ≤ 1000000) {o : OpW} {ab : Option Addr} {cb : Nat} {ap : Option Addr} {cp : Nat} (ho : OpwRd W0 (fun b => b < W0.heap.size) o ab cb ap cp) (h6 : o.k ≠ 6) (h7 : o.k ≠ 7) (h8 : o.k ≠ 8) (h9 : o.k ≠ 9) (h1 : o.k ≠ 1) (h2 : o.k ≠ 2) (h3 : o.k ≠ 3) (h4 : o.k ≠ 4) (h5 : o.k ≠ 5) {g : LG} (hg : og = some g) :
 Calls Tryz.prog 14 #[.pointer (some ⟨q, 0, none⟩), opwV o ab cb ap cp] w (DPost W0 B q d c dir room) := by
 obtain ⟨T, T', pl, pm, hT⟩ := h
 have HIO := Lib.hid (SideL.isnone hT.sl hT.sr)
 have hP := hT.pt #[.int .i64 o.k, .int .i64 o.n, .int .i64 o.m, .slice ab o.b.length cb, .string (bs o.nm), .slice ap o.p.length cp]
 obtain ⟨X, hX⟩ : ∃ X, w.alloc (.cells #[.int .i64 o.k, .int .i64 o.n, .int .i64 o.m, .slice ab o.b.length cb, .string (bs o.nm), .slice ap o.p.length cp] 48) = X := ⟨_, rfl⟩
 rw [hX] at hP
 obtain ⟨pb, hpb⟩ : ∃ pb, w.heap.size = pb := ⟨_, rfl⟩
 rw [hpb] at hP
 have HO := Lib.hid ho
 have HBD := Lib.hid hB
 have HDL := Lib.hid hd
 have b6 : (o.k == 6) = false := by simpa using h6
 have b7 : (o.k == 7) = false := by simpa using h7
 have b8 : (o.k == 8) = false := by simpa using h8
 have b9 : (o.k == 9) = false := by simpa using h9
 have b1 : (o.k == 1) = false := by simpa using h1
 have b2 : (o.k == 2) = false := by simpa using h2
 have b3 : (o.k == 3) = false := by simpa using h3
 have b4 : (o.k == 4) = false := by simpa using h4
 have b5 : (o.k == 5) = false := by simpa using h5
 subst hg
 obtain ⟨l, m, rfl, rfl, hlw, hlk, hrw⟩ : ∃ l m, pl = some ⟨l, 0, none⟩ ∧ pm = some ⟨m, 0, none⟩ ∧ LWS B w d l T s g ∧ LOk s g ∧ RWS w c m T' s g := by
  rcases HIO.out with ⟨_, _, h⟩ | ⟨l, m, g', h1, h2, h3, h4, h5, h6⟩
  · cases h
  · cases h3; exact ⟨l, m, h1, h2, h4, h5, h6⟩
 have HLK := Lib.hid hlk
 have HP := Lib.hid hP
 obtain ⟨c0, c1, c2, c3⟩ := hP.cq
 have x0 := hP.co 0
 simp only [List.getElem?_toArray, List.getElem?_cons_zero] at x0
 clear hT hP ho hB hd HIO hlw hlk hrw h6 h7 h8 h9 h1 h2 h3 h4 h5
 go_enter Tryz.func14, Tryz.ntmps14
 obtain ⟨ok, hok⟩ : ∃ ok, o.k = ok := ⟨_, rfl⟩
 rw [hok] at x0 b1 b2 b3 b4 b5 b6 b7 b8 b9 hX
 unfold opwV
 rw [hok]
 go_wp2_with fail
 go_ret
 exact ⟨rfl, _, _, (HP.out.mono (by omega)).bb⟩
set_option maxHeartbeats 4000000 in
theorem kd_2 {W0 w : World} {B : Int} {q d c : Nat} {dir : List UInt8} {room : Int} {s : DS} {og : Option LG} (h : BB W0 B q d c dir room s og w) (hB : B < 900000000000) (hd : dir.length ≤ 1000000) {o : OpW} {ab : Option Addr} {cb : Nat} {ap : Option Addr} {cp : Nat} (ho : OpwRd W0 (fun b => b < W0.heap.size) o ab cb ap cp) (hk : o.k = 2) {g : LG} (hg : og = some g) :
 Calls Tryz.prog 14 #[.pointer (some ⟨q, 0, none⟩), opwV o ab cb ap cp] w (DPost W0 B q d c dir room) := by
 obtain ⟨T, T', pl, pm, hT⟩ := h
 have HIO := Lib.hid (SideL.isnone hT.sl hT.sr)
 have hP := hT.pt #[.int .i64 o.k, .int .i64 o.n, .int .i64 o.m, .slice ab o.b.length cb, .string (bs o.nm), .slice ap o.p.length cp]
 obtain ⟨X, hX⟩ : ∃ X, w.alloc (.cells #[.int .i64 o.k, .int .i64 o.n, .int .i64 o.m, .slice ab o.b.length cb, .string (bs o.nm), .slice ap o.p.length cp] 48) = X := ⟨_, rfl⟩
 rw [hX] at hP
 obtain ⟨pb, hpb⟩ : ∃ pb, w.heap.size = pb := ⟨_, rfl⟩
 rw [hpb] at hP
 have HO := Lib.hid ho
 have HBD := Lib.hid hB
 have HDL := Lib.hid hd
 subst hg
 obtain ⟨l, m, rfl, rfl, hlw, hlk, hrw⟩ : ∃ l m, pl = some ⟨l, 0, none⟩ ∧ pm = some ⟨m, 0, none⟩ ∧ LWS B w d l T s g ∧ LOk s g ∧ RWS w c m T' s g := by
  rcases HIO.out with ⟨_, _, h⟩ | ⟨l, m, g', h1, h2, h3, h4, h5, h6⟩
  · cases h
  · cases h3; exact ⟨l, m, h1, h2, h4, h5, h6⟩
 have HLK := Lib.hid hlk
 unfold opwV
 rw [hk] at hX hP ⊢
 have HP := Lib.hid hP
 obtain ⟨c0, c1, c2, c3⟩ := hP.cq
 have x0 := hP.co 0
 simp only [List.getElem?_toArray, List.getElem?_cons_zero] at x0
 clear hT hP ho hB hd HIO hlw hlk hrw
 go_enter Tryz.func14, Tryz.ntmps14
 obtain ⟨r, hr⟩ : ∃ r, (syncL s g).e = r := ⟨_, rfl⟩
 have HR := Lib.hid hr
 clear hr
 go_wp2_with fail
 clear hX hpb x0
 refine wp_region_ht 10 (fun W => W.cell? ⟨q, 2, none⟩ = some (.pointer (some ⟨l, 0, none⟩)) ∧ W.cell? ⟨q, 3, none⟩ = some (.pointer (some ⟨m, 0, none⟩))) (by kernel_rfl) (by kernel_rfl) ?_ (fun hHeld => ?_)
 · exact ⟨c2, c3⟩
 try simp only [Act.put, List.setIfInBounds_toArray, List.set_cons_zero, List.set_cons_succ]
 refine wpHT_takeD (i := 0) (d := 143) (v := ?_) (by kernel_rfl) rfl rfl (by decide) (by kernel_rfl) (by kernel_rfl) (fun _ _ _ h => h) (Or.inl ⟨by kernel_rfl, ?_⟩) (by assumption) ?_
 rotate_left
 · intro w hSw; (try dsimp only at hSw); go_simp; (try with_reducible rfl)
 try simp only [Act.put, List.setIfInBounds_toArray, List.set_cons_zero, List.set_cons_succ]
 refine wpHT_takeD (i := 1) (d := 144) (v := ?_) (by kernel_rfl) rfl rfl (by decide) (by kernel_rfl) (by kernel_rfl) (fun _ _ _ h => h) (Or.inl ⟨by kernel_rfl, ?_⟩) (by assumption) ?_
 rotate_left
 · intro w hSw; (try dsimp only at hSw); go_simp; (try with_reducible rfl)
 try simp only [Act.put, List.setIfInBounds_toArray, List.set_cons_zero, List.set_cons_succ]
 refine wpHT_takeD (i := 2) (d := 145) (v := ?_) (by kernel_rfl) rfl rfl (by decide) (by kernel_rfl) (by kernel_rfl) (fun _ _ _ h => h) (Or.inl ⟨by kernel_rfl, ?_⟩) (by assumption) ?_
 rotate_left
 · intro w hSw; (try dsimp only at hSw); go_simp; (try with_reducible rfl)
 try simp only [Act.put, List.setIfInBounds_toArray, List.set_cons_zero, List.set_cons_succ]
 refine wpHT_takeD (i := 3) (d := 146) (v := ?_) (by kernel_rfl) rfl rfl (by decide) (by kernel_rfl) (by kernel_rfl) (fun _ _ _ h => h) (Or.inl ⟨by kernel_rfl, ?_⟩) (by assumption) ?_
 rotate_left
 · intro w hSw; (try dsimp only at hSw); go_simp; (try with_reducible rfl)
 try simp only [Act.put, List.setIfInBounds_toArray, List.set_cons_zero, List.set_cons_succ]
 refine wpHT_takeD (i := 5) (d := 148) (v := ?_) (by kernel_rfl) rfl rfl (by decide) (by kernel_rfl) (by kernel_rfl) (fun _ _ _ h => h) (Or.inl ⟨by kernel_rfl, ?_⟩) (by assumption) ?_
 rotate_left
 · intro w hSw; (try dsimp only at hSw); go_simp; (try with_reducible rfl)
 try simp only [Act.put, List.setIfInBounds_toArray, List.set_cons_zero, List.set_cons_succ]
 refine wpHT_takeD (i := 6) (d := 149) (v := ?_) (by kernel_rfl) rfl rfl (by decide) (by kernel_rfl) (by kernel_rfl) (fun _ _ _ h => h) (Or.inl ⟨by kernel_rfl, ?_⟩) (by assumption) ?_
 rotate_left
 · intro w hSw; (try dsimp only at hSw); go_simp; (try with_reducible rfl)
 try simp only [Act.put, List.setIfInBounds_toArray, List.set_cons_zero, List.set_cons_succ]
 refine wpHT_takeD (i := 7) (d := 150) (v := ?_) (by kernel_rfl) rfl rfl (by decide) (by kernel_rfl) (by kernel_rfl) (fun _ _ _ h => h) (Or.inl ⟨by kernel_rfl, ?_⟩) (by assumption) ?_
 rotate_left
 · intro w hSw; (try dsimp only at hSw); go_simp; (try with_reducible rfl)
 try simp only [Act.put, List.setIfInBounds_toArray, List.set_cons_zero, List.set_cons_succ]
 refine wpHT_takeD (i := 8) (d := 151) (v := ?_) (by kernel_rfl) rfl rfl (by decide) (by kernel_rfl) (by kernel_rfl) (fun _ _ _ h => h) (Or.inl ⟨by kernel_rfl, ?_⟩) (by assumption) ?_
 rotate_left
 · intro w hSw; (try dsimp only at hSw); go_simp; (try with_reducible rfl)
 try simp only [Act.put, List.setIfInBounds_toArray, List.set_cons_zero, List.set_cons_succ]
 refine wpHT_one (i := 4) (by kernel_rfl) rfl (by decide) (fun K hK => ?_)
 go_simp
 go_at_call 18
 have hP1 := HP.out.new (Below.refl _ X).drew
 obtain ⟨l2, e2, lw2, _⟩ := hP1.sl
 obtain rfl : l = l2 := by simpa using e2
 refine (wsync_any (by have := HBD.out; omega) lw2 HLK.out).mono ?_
 rintro e W1 ⟨rfl, g1, g2⟩
 rw [HR.out]
 have HP2 := Lib.hid (hP1.stepL (og2 := some (syncL s g).g) (s2 := (syncL s g).s) ⟨l, rfl, g1, HLK.out.sync⟩ g2)
 clear g1 g2 hP1 e2 lw2
 obtain ⟨c0, c1, c2, c3⟩ := HP2.out.cq
 refine hK.out _ _ ?_ (fun hHeld => ?_)
 · exact ⟨c2, c3⟩
 clear hK K
 try simp only [Act.put, List.setIfInBounds_toArray, List.set_cons_zero, List.set_cons_succ]
 refine wpHT_one (i := 9) (by kernel_rfl) rfl (by decide) (fun K hK => ?_)
 go_simp
 go_at_call 42
 obtain ⟨m2, e2, rw2⟩ := HP2.out.sr
 obtain rfl : m = m2 := by simpa using e2
 refine (rsyncL_any (B := B) (by have := HBD.out; omega) HP.out.sl.ok rw2 HLK.out).mono ?_
 rintro e W2 ⟨rfl, g1, g2⟩
 rw [HR.out]
 have HP3 := Lib.hid (HP2.out.stepR (og2 := some (syncL s g).g) (s2 := (syncL s g).s) ⟨m, rfl, g1⟩ g2)
 clear g1 g2 e2 rw2
 obtain ⟨c0, c1, c2, c3⟩ := HP3.out.cq
 refine hK.out _ _ ?_ (fun hHeld => ?_)
 · exact ⟨c2, c3⟩
 clear hK K
 try simp only [Act.put, List.setIfInBounds_toArray, List.set_cons_zero, List.set_cons_succ]
 refine wpHT_done (by kernel_rfl) ?_
 simp only [List.drop_succ_cons, List.drop_zero]
 clear hHeld c0 c1 c2 c3
 go_wp2_with fail
 go_ret
 exact ⟨rfl, _, _, (HP3.out.mono (by omega)).bb⟩
set_option maxHeartbeats 4000000 in
theorem kd_3 {W0 w : World} {B : Int} {q d c : Nat} {dir : List UInt8} {room : Int} {s : DS} {og : Option LG} (h : BB W0 B q d c dir room s og w) (hB : B < 900000000000) (hd : dir.length ≤ 1000000) {o : OpW} {ab : Option Addr} {cb : Nat} {ap : Option Addr} {cp : Nat} (ho : OpwRd W0 (fun b => b < W0.heap.size) o ab cb ap cp) (hk : o.k = 3) {g : LG} (hg : og = some g) :
 Calls Tryz.prog 14 #[.pointer (some ⟨q, 0, none⟩), opwV o ab cb ap cp] w (DPost W0 B q d c dir room) := by
 obtain ⟨T, T', pl, pm, hT⟩ := h
 have HIO := Lib.hid (SideL.isnone hT.sl hT.sr)
 have hP := hT.pt #[.int .i64 o.k, .int .i64 o.n, .int .i64 o.m, .slice ab o.b.length cb, .string (bs o.nm), .slice ap o.p.length cp]
 obtain ⟨X, hX⟩ : ∃ X, w.alloc (.cells #[.int .i64 o.k, .int .i64 o.n, .int .i64 o.m, .slice ab o.b.length cb, .string (bs o.nm), .slice ap o.p.length cp] 48) = X := ⟨_, rfl⟩
 rw [hX] at hP
 obtain ⟨pb, hpb⟩ : ∃ pb, w.heap.size = pb := ⟨_, rfl⟩
 rw [hpb] at hP
 have HO := Lib.hid ho
 have HBD := Lib.hid hB
 have HDL := Lib.hid hd
 subst hg
 obtain ⟨l, m, rfl, rfl, hlw, hlk, hrw⟩ : ∃ l m, pl = some ⟨l, 0, none⟩ ∧ pm = some ⟨m, 0, none⟩ ∧ LWS B w d l T s g ∧ LOk s g ∧ RWS w c m T' s g := by
  rcases HIO.out with ⟨_, _, h⟩ | ⟨l, m, g', h1, h2, h3, h4, h5, h6⟩
  · cases h
  · cases h3; exact ⟨l, m, h1, h2, h4, h5, h6⟩
 have HLK := Lib.hid hlk
 unfold opwV
 rw [hk] at hX hP ⊢
 have HP := Lib.hid hP
 obtain ⟨c0, c1, c2, c3⟩ := hP.cq
 have x0 := hP.co 0
 have x1 := hP.co 1
 simp only [List.getElem?_toArray, List.getElem?_cons_zero] at x0
 simp only [List.getElem?_toArray, List.getElem?_cons_zero, List.getElem?_cons_succ] at x1
 clear hT hP ho hB hd HIO hlw hlk hrw
 go_enter Tryz.func14, Tryz.ntmps14
 obtain ⟨r, hr⟩ : ∃ r, (trimL s g o.n).e = r := ⟨_, rfl⟩
 have HR := Lib.hid hr
 clear hr
 go_wp2_with fail
 clear hX hpb x0
 refine wp_region_ht 14 (fun W => W.cell? ⟨q, 2, none⟩ = some (.pointer (some ⟨l, 0, none⟩)) ∧ W.cell? ⟨q, 3, none⟩ = some (.pointer (some ⟨m, 0, none⟩)) ∧ W.cell? ⟨pb, 1, none⟩ = some (.int .i64 o.n)) (by kernel_rfl) (by kernel_rfl) ?_ (fun hHeld => ?_)
 · exact ⟨c2, c3, x1⟩
 try simp only [Act.put, List.setIfInBounds_toArray, List.set_cons_zero, List.set_cons_succ]
 refine wpHT_takeD (i := 0) (d := 158) (v := ?_) (by kernel_rfl) rfl rfl (by decide) (by kernel_rfl) (by kernel_rfl) (fun _ _ _ h => h) (Or.inl ⟨by kernel_rfl, ?_⟩) (by assumption) ?_
 rotate_left
 · intro w hSw; (try dsimp only at hSw); go_simp; (try with_reducible rfl)
 try simp only [Act.put, List.setIfInBounds_toArray, List.set_cons_zero, List.set_cons_succ]
 refine wpHT_takeD (i := 1) (d := 159) (v := ?_) (by kernel_rfl) rfl rfl (by decide) (by kernel_rfl) (by kernel_rfl) (fun _ _ _ h => h) (Or.inl ⟨by kernel_rfl, ?_⟩) (by assumption) ?_
 rotate_left
 · intro w hSw; (try dsimp only at hSw); go_simp; (try with_reducible rfl)
 try simp only [Act.put, List.setIfInBounds_toArray, List.set_cons_zero, List.set_cons_succ]
 refine wpHT_takeD (i := 2) (d := 160) (v := ?_) (by kernel_rfl) rfl rfl (by decide) (by kernel_rfl) (by kernel_rfl) (fun _ _ _ h => h) (Or.inl ⟨by kernel_rfl, ?_⟩) (by assumption) ?_
 rotate_left
 · intro w hSw; (try dsimp only at hSw); go_simp; (try with_reducible rfl)
 try simp only [Act.put, List.setIfInBounds_toArray, List.set_cons_zero, List.set_cons_succ]
 refine wpHT_takeD (i := 3) (d := 161) (v := ?_) (by kernel_rfl) rfl rfl (by decide) (by kernel_rfl) (by kernel_rfl) (fun _ _ _ h => h) (Or.inl ⟨by kernel_rfl, ?_⟩) (by assumption) ?_
 rotate_left
 · intro w hSw; (try dsimp only at hSw); go_simp; (try with_reducible rfl)
 try simp only [Act.put, List.setIfInBounds_toArray, List.set_cons_zero, List.set_cons_succ]
 refine wpHT_takeD (i := 4) (d := 162) (v := ?_) (by kernel_rfl) rfl rfl (by decide) (by kernel_rfl) (by kernel_rfl) (fun _ _ _ h => h) (Or.inl ⟨by kernel_rfl, ?_⟩) (by assumption) ?_
 rotate_left
 · intro w hSw; (try dsimp only at hSw); go_simp; (try with_reducible rfl)
 try simp only [Act.put, List.setIfInBounds_toArray, List.set_cons_zero, List.set_cons_succ]
 refine wpHT_takeD (i := 5) (d := 163) (v := ?_) (by kernel_rfl) rfl rfl (by decide) (by kernel_rfl) (by kernel_rfl) (fun _ _ _ h => h) (Or.inl ⟨by kernel_rfl, ?_⟩) (by assumption) ?_
 rotate_left
 · intro w hSw; (try dsimp only at hSw); go_simp; (try with_reducible rfl)
 try simp only [Act.put, List.setIfInBounds_toArray, List.set_cons_zero, List.set_cons_succ]
 refine wpHT_takeD (i := 7) (d := 165) (v := ?_) (by kernel_rfl) rfl rfl (by decide) (by kernel_rfl) (by kernel_rfl) (fun _ _ _ h => h) (Or.inl ⟨by kernel_rfl, ?_⟩) (by assumption) ?_
 rotate_left
 · intro w hSw; (try dsimp only at hSw); go_simp; (try with_reducible rfl)
 try simp only [Act.put, List.setIfInBounds_toArray, List.set_cons_zero, List.set_cons_succ]
 refine wpHT_takeD (i := 8) (d := 166) (v := ?_) (by kernel_rfl) rfl rfl (by decide) (by kernel_rfl) (by kernel_rfl) (fun _ _ _ h => h) (Or.inl ⟨by kernel_rfl, ?_⟩) (by assumption) ?_
 rotate_left
 · intro w hSw; (try dsimp only at hSw); go_simp; (try with_reducible rfl)
 try simp only [Act.put, List.setIfInBounds_toArray, List.set_cons_zero, List.set_cons_succ]
 refine wpHT_takeD (i := 9) (d := 167) (v := ?_) (by kernel_rfl) rfl rfl (by decide) (by kernel_rfl) (by kernel_rfl) (fun _ _ _ h => h) (Or.inl ⟨by kernel_rfl, ?_⟩) (by assumption) ?_
 rotate_left
 · intro w hSw; (try dsimp only at hSw); go_simp; (try with_reducible rfl)
 try simp only [Act.put, List.setIfInBounds_toArray, List.set_cons_zero, List.set_cons_succ]
 refine wpHT_takeD (i := 10) (d := 168) (v := ?_) (by kernel_rfl) rfl rfl (by decide) (by kernel_rfl) (by kernel_rfl) (fun _ _ _ h => h) (Or.inl ⟨by kernel_rfl, ?_⟩) (by assumption) ?_
 rotate_left
 · intro w hSw; (try dsimp only at hSw); go_simp; (try with_reducible rfl)
 try simp only [Act.put, List.setIfInBounds_toArray, List.set_cons_zero, List.set_cons_succ]
 refine wpHT_takeD (i := 11) (d := 169) (v := ?_) (by kernel_rfl) rfl rfl (by decide) (by kernel_rfl) (by kernel_rfl) (fun _ _ _ h => h) (Or.inl ⟨by kernel_rfl, ?_⟩) (by assumption) ?_
 rotate_left
 · intro w hSw; (try dsimp only at hSw); go_simp; (try with_reducible rfl)
 try simp only [Act.put, List.setIfInBounds_toArray, List.set_cons_zero, List.set_cons_succ]
 refine wpHT_takeD (i := 12) (d := 170) (v := ?_) (by kernel_rfl) rfl rfl (by decide) (by kernel_rfl) (by kernel_rfl) (fun _ _ _ h => h) (Or.inl ⟨by kernel_rfl, ?_⟩) (by assumption) ?_
 rotate_left
 · intro w hSw; (try dsimp only at hSw); go_simp; (try with_reducible rfl)
 try simp only [Act.put, List.setIfInBounds_toArray, List.set_cons_zero, List.set_cons_succ]
 refine wpHT_one (i := 6) (by kernel_rfl) rfl (by decide) (fun K hK => ?_)
 go_simp
 go_at_call 43
 have hP1 := HP.out.new (Below.refl _ X).drew
 obtain ⟨l2, e2, lw2, _⟩ := hP1.sl
 obtain rfl : l = l2 := by simpa using e2
 refine (wtrim_any (by have := HBD.out; omega) lw2 HLK.out o.n).mono ?_
 rintro e W1 ⟨rfl, g1, g2⟩
 rw [HR.out]
 have HP2 := Lib.hid (hP1.stepL (og2 := some (trimL s g o.n).g) (s2 := (trimL s g o.n).s) ⟨l, rfl, g1, HLK.out.trim o.n⟩ g2)
 clear g1 g2 hP1 e2 lw2
 obtain ⟨c0, c1, c2, c3⟩ := HP2.out.cq
 have x1 := HP2.out.co 1
 simp only [List.getElem?_toArray, List.getElem?_cons_zero, List.getElem?_cons_succ] at x1
 refine hK.out _ _ ?_ (fun hHeld => ?_)
 · exact ⟨c2, c3, x1⟩
 clear hK K
 try simp only [Act.put, List.setIfInBounds_toArray, List.set_cons_zero, List.set_cons_succ]
 refine wpHT_one (i := 13) (by kernel_rfl) rfl (by decide) (fun K hK => ?_)
 go_simp
 go_at_call 44
 obtain ⟨m2, e2, rw2⟩ := HP2.out.sr
 obtain rfl : m = m2 := by simpa using e2
 refine (rtrimL_any (B := B) (by have := HBD.out; omega) HP.out.sl.ok rw2 HLK.out o.n).mono ?_
 rintro e W2 ⟨rfl, g1, g2⟩
 rw [HR.out]
 have HP3 := Lib.hid (HP2.out.stepR (og2 := some (trimL s g o.n).g) (s2 := (trimL s g o.n).s) ⟨m, rfl, g1⟩ g2)
 clear g1 g2 e2 rw2
 obtain ⟨c0, c1, c2, c3⟩ := HP3.out.cq
 have x1 := HP3.out.co 1
 simp only [List.getElem?_toArray, List.getElem?_cons_zero, List.getElem?_cons_succ] at x1
 refine hK.out _ _ ?_ (fun hHeld => ?_)
 · exact ⟨c2, c3, x1⟩
 clear hK K
 try simp only [Act.put, List.setIfInBounds_toArray, List.set_cons_zero, List.set_cons_succ]
 refine wpHT_done (by kernel_rfl) ?_
 simp only [List.drop_succ_cons, List.drop_zero]
 clear hHeld c0 c1 c2 c3 x1
 go_wp2_with fail
 go_ret
 exact ⟨rfl, _, _, (HP3.out.mono (by omega)).bb⟩
end Go.Proofs.YtjjcilinghgphaaGreat

/-! ### An operation of both logs (racelaw7.both.does): Append, Read, From; all of them. -/
namespace Go.Proofs.YtjjcilinghgphaaGreat
open Go.RowKit Go.Maps Go.Sort
set_option maxRecDepth 100000
attribute [local go_sem] bs_size bs_toList
theorem PT.beside {W0 W W' : World} {B : Int} {T T' R : Nat → Prop} {q d c pb : Nat} {dir : List UInt8} {room : Int} {s s' : DS} {og og' : Option LG} {pl pm : Option Addr} {cs : Array Value} (h : PT W0 B q d c dir room s og s' og' T T' pl pm pb cs W) (hf : Fr R W W') (h1 : ∀ k, R k → W0.heap.size ≤ k ∧ ¬ T k ∧ ¬ T' k ∧ k ≠ q ∧ k ≠ pb) : PT W0 B q d c dir room s og s' og' T T' pl pm pb cs W' :=
 ⟨⟨h.ab.t0, h.ab.t1, fun k hk => Nat.lt_of_lt_of_le (h.ab.l0 k hk) hf.size, fun k hk => Nat.lt_of_lt_of_le (h.ab.l1 k hk) hf.size, h.ab.dj, h.ab.bl.trans (hf.below h.ab.bl.size fun k hk e => by have := (h1 k e).1; omega)⟩,
  ⟨(hf.block q h.rb.lt fun e => (h1 q e).2.2.2.1 rfl).trans h.rb.row, h.rb.n, h.rb.n'⟩, ⟨(hf.block pb h.ro.lt fun e => (h1 pb e).2.2.2.2 rfl).trans h.ro.row, h.ro.n, h.ro.n'⟩,
  h.sl.keep hf fun k hk e => (h1 k e).2.1 hk, h.sr.keep hf fun k hk e => (h1 k e).2.2.1 hk, h.q0⟩
set_option maxHeartbeats 4000000 in
theorem kd_1 {W0 w : World} {B : Int} {q d c : Nat} {dir : List UInt8} {room : Int} {s : DS} {og : Option LG} (h : BB W0 B q d c dir room s og w) (hB : B < 900000000000) (hd : dir.length ≤ 1000000) {o : OpW} {ab : Option Addr} {cb : Nat} {ap : Option Addr} {cp : Nat} (ho : OpwRd W0 (fun b => b < W0.heap.size) o ab cb ap cp) (hbl : o.b.length ≤ 20000) (hk : o.k = 1) {g : LG} (hg : og = some g) :
 Calls Tryz.prog 14 #[.pointer (some ⟨q, 0, none⟩), opwV o ab cb ap cp] w (DPost W0 B q d c dir room) := by
 obtain ⟨T, T', pl, pm, hT⟩ := h
 have HIO := Lib.hid (SideL.isnone hT.sl hT.sr)
 have hP := hT.pt #[.int .i64 o.k, .int .i64 o.n, .int .i64 o.m, .slice ab o.b.length cb, .string (bs o.nm), .slice ap o.p.length cp]
 obtain ⟨X, hX⟩ : ∃ X, w.alloc (.cells #[.int .i64 o.k, .int .i64 o.n, .int .i64 o.m, .slice ab o.b.length cb, .string (bs o.nm), .slice ap o.p.length cp] 48) = X := ⟨_, rfl⟩
 rw [hX] at hP
 obtain ⟨pb, hpb⟩ : ∃ pb, w.heap.size = pb := ⟨_, rfl⟩
 rw [hpb] at hP
 have HO := Lib.hid ho
 have HBD := Lib.hid hB
 have HDL := Lib.hid hd
 subst hg
 obtain ⟨l, m, rfl, rfl, hlw, hlk, hrw⟩ : ∃ l m, pl = some ⟨l, 0, none⟩ ∧ pm = some ⟨m, 0, none⟩ ∧ LWS B w d l T s g ∧ LOk s g ∧ RWS w c m T' s g := by
  rcases HIO.out with ⟨_, _, h⟩ | ⟨l, m, g', h1, h2, h3, h4, h5, h6⟩
  · cases h
  · cases h3; exact ⟨l, m, h1, h2, h4, h5, h6⟩
 have HLK := Lib.hid hlk
 unfold opwV
 rw [hk] at hX hP ⊢
 have HP := Lib.hid hP
 obtain ⟨c0, c1, c2, c3⟩ := hP.cq
 have x0 := hP.co 0
 have x3 := hP.co 3
 simp only [List.getElem?_toArray, List.getElem?_cons_zero] at x0
 simp only [List.getElem?_toArray, List.getElem?_cons_zero, List.getElem?_cons_succ] at x3
 clear hT hP ho hB hd HIO hlw hlk hrw
 go_enter Tryz.func14, Tryz.ntmps14
 go_wp2_with fail
 go_at_call 26
 clear hX hpb x0
 refine (copyBytes_any ab _ cb o.b X (HO.out.2.1.below HP.out.ab.bl) (by omega)).mono ?_
 rintro e W1 ⟨v, rfl, hov, hb⟩
 obtain ⟨a5, c5, rfl, hr5⟩ := hov.rd
 have hlt5 := World.ownsRow.lt hov
 have HW5 := Lib.hid (WrB.of_own hov rfl)
 have HBK : Hid (∀ b, blk a5 = some b → X.heap.size ≤ b ∧ b < W1.heap.size) := fun b hb => hlt5 b (by rw [ownBlock_sl]; exact hb)
 have HR5 := Lib.hid hr5
 have HP1 := Lib.hid (HP.out.new hb)
 have HX1 : Hid (X.heap.size ≤ W1.heap.size) := hb.size
 clear hov hb hlt5 hr5
 obtain ⟨c0, c1, c2, c3⟩ := HP1.out.cq
 have x3 := HP1.out.co 3
 simp only [List.getElem?_toArray, List.getElem?_cons_zero, List.getElem?_cons_succ] at x3
 go_wp2_with fail
 go_at_call 16
 obtain ⟨l2, e2, lw2, _⟩ := HP1.out.sl
 obtain rfl : l = l2 := by simpa using e2
 refine (wappend_any (by have := HBD.out; omega) lw2 HLK.out HR5.out (fun h0 b hb e => by have h1 := HBK.out b hb; have h2 := HP.out.ab.l0 b e; omega)).mono ?_
 rintro e W2 ⟨rfl, g1, g2⟩
 have hoka : LOk (appL s g o.b).s (appL s g o.b).g := by
  by_cases hn : g.next ≤ 99999999
  · exact HLK.out.app (DOk.turn HP.out.sl.ok HLK.out hn)
  · rw [(appL_range (by omega) (by omega)).1]; exact HLK.out
 have HP2 := Lib.hid (HP1.out.stepL (og2 := some (appL s g o.b).g) (s2 := (appL s g o.b).s) ⟨l, rfl, g1, hoka⟩ g2)
 have HR52 : Hid (Rd8 W2 a5 o.b.length c5 o.b) := HR5.out.keep0 g2 fun h0 b hb e => by have h1 := HBK.out b hb; have h2 := HP.out.ab.l0 b e; omega
 have HW52 := Lib.hid (HW5.out.keep g2 fun b hb e => by have h1 := HBK.out b hb; have h2 := HP.out.ab.l0 b e; omega)
 have HS12 : Hid (W1.heap.size ≤ W2.heap.size) := g2.size
 obtain ⟨nn, hnn⟩ : ∃ nn, appN s g o.b = nn := ⟨_, rfl⟩
 obtain ⟨E, hE⟩ : ∃ E, (appL s g o.b).e = E := ⟨_, rfl⟩
 rw [hnn, hE]
 have HNN := Lib.hid hnn
 have HE := Lib.hid hE
 clear g1 g2 hoka lw2 e2 hnn hE
 obtain ⟨c0, c1, c2, c3⟩ := HP2.out.cq
 have x3 := HP2.out.co 3
 simp only [List.getElem?_toArray, List.getElem?_cons_zero, List.getElem?_cons_succ] at x3
 go_wp2_with fail
 refine wp_region_ht 11 (fun W => W.cell? ⟨q, 3, none⟩ = some (.pointer (some ⟨m, 0, none⟩)) ∧ W.cell? ⟨pb, 3, none⟩ = some (.slice ab o.b.length cb)) (by kernel_rfl) (by kernel_rfl) ?_ (fun hHeld => ?_)
 · exact ⟨c3, x3⟩
 try simp only [Act.put, List.setIfInBounds_toArray, List.set_cons_zero, List.set_cons_succ]
 refine wpHT_takeD (i := 0) (d := 106) (v := ?_) (by kernel_rfl) rfl rfl (by decide) (by kernel_rfl) (by kernel_rfl) (fun _ _ _ h => h) (Or.inl ⟨by kernel_rfl, ?_⟩) (by assumption) ?_
 rotate_left
 · intro w hSw; (try dsimp only at hSw); go_simp; (try with_reducible rfl)
 try simp only [Act.put, List.setIfInBounds_toArray, List.set_cons_zero, List.set_cons_succ]
 refine wpHT_takeD (i := 1) (d := 107) (v := ?_) (by kernel_rfl) rfl rfl (by decide) (by kernel_rfl) (by kernel_rfl) (fun _ _ _ h => h) (Or.inl ⟨by kernel_rfl, ?_⟩) (by assumption) ?_
 rotate_left
 · intro w hSw; (try dsimp only at hSw); go_simp; (try with_reducible rfl)
 try simp only [Act.put, List.setIfInBounds_toArray, List.set_cons_zero, List.set_cons_succ]
 refine wpHT_takeD (i := 2) (d := 108) (v := ?_) (by kernel_rfl) rfl rfl (by decide) (by kernel_rfl) (by kernel_rfl) (fun _ _ _ h => h) (Or.inl ⟨by kernel_rfl, ?_⟩) (by assumption) ?_
 rotate_left
 · intro w hSw; (try dsimp only at hSw); go_simp; (try with_reducible rfl)
 try simp only [Act.put, List.setIfInBounds_toArray, List.set_cons_zero, List.set_cons_succ]
 refine wpHT_takeD (i := 3) (d := 109) (v := ?_) (by kernel_rfl) rfl rfl (by decide) (by kernel_rfl) (by kernel_rfl) (fun _ _ _ h => h) (Or.inl ⟨by kernel_rfl, ?_⟩) (by assumption) ?_
 rotate_left
 · intro w hSw; (try dsimp only at hSw); go_simp; (try with_reducible rfl)
 try simp only [Act.put, List.setIfInBounds_toArray, List.set_cons_zero, List.set_cons_succ]
 refine wpHT_takeD (i := 4) (d := 110) (v := ?_) (by kernel_rfl) rfl rfl (by decide) (by kernel_rfl) (by kernel_rfl) (fun _ _ _ h => h) (Or.inl ⟨by kernel_rfl, ?_⟩) (by assumption) ?_
 rotate_left
 · intro w hSw; (try dsimp only at hSw); go_simp; (try with_reducible rfl)
 try simp only [Act.put, List.setIfInBounds_toArray, List.set_cons_zero, List.set_cons_succ]
 refine wpHT_takeD (i := 5) (d := 111) (v := ?_) (by kernel_rfl) rfl rfl (by decide) (by kernel_rfl) (by kernel_rfl) (fun _ _ _ h => h) (Or.inl ⟨by kernel_rfl, ?_⟩) (by assumption) ?_
 rotate_left
 · intro w hSw; (try dsimp only at hSw); go_simp; (try with_reducible rfl)
 try simp only [Act.put, List.setIfInBounds_toArray, List.set_cons_zero, List.set_cons_succ]
 refine wpHT_one (i := 6) (by kernel_rfl) rfl (by decide) (fun K hK => ?_)
 go_simp
 go_at_call 41
 have hP1 := HP2.out.new (Below.refl _ W2).drew
 obtain ⟨m2, e2, rw2⟩ := hP1.sr
 obtain rfl : m = m2 := by simpa using e2
 refine (rappendL_any (B := B) (by have := HBD.out; omega) HP.out.sl.ok rw2 HLK.out (HO.out.2.1.below hP1.ab.bl) (fun h0 b hb e => by have h1 := HO.out.2.2.2.1 h0 b hb; have h2 := hP1.ab.t1 b e; omega)).mono ?_
 rintro e W3 ⟨rfl, g1, g2⟩
 rw [HNN.out, HE.out]
 have HP3 := Lib.hid (hP1.stepR (og2 := some (appL s g o.b).g) (s2 := (appL s g o.b).s) ⟨m, rfl, g1⟩ g2)
 have HR53 : Hid (Rd8 W3 a5 o.b.length c5 o.b) := (HR52.out.below (Below.refl _ W2).drew).keep0 g2 fun h0 b hb e => by have h1 := HBK.out b hb; have h2 := HP.out.ab.l1 b e; omega
 have HW53 := Lib.hid ((HW52.out.keep (Fr.of_below (Below.refl W2.heap.size W2).drew) (fun b hb e => by have h1 := HBK.out b hb; have h2 := HS12.out; omega)).keep g2 fun b hb e => by have h1 := HBK.out b hb; have h2 := HP.out.ab.l1 b e; omega)
 clear g1 g2 e2 rw2 hP1
 obtain ⟨c0, c1, c2, c3⟩ := HP3.out.cq
 have x3 := HP3.out.co 3
 simp only [List.getElem?_toArray, List.getElem?_cons_zero, List.getElem?_cons_succ] at x3
 refine hK.out _ _ ?_ (fun hHeld => ?_)
 · exact ⟨c3, x3⟩
 clear hK K
 try simp only [Act.put, List.setIfInBounds_toArray, List.set_cons_zero, List.set_cons_succ]
 refine wpHT_takeD (i := 7) (d := 105) (v := ?_) (by kernel_rfl) rfl rfl (by decide) (by kernel_rfl) (by kernel_rfl) (fun _ _ _ h => h) (Or.inl ⟨by kernel_rfl, ?_⟩) (by assumption) ?_
 rotate_left
 · intro w hSw; (try dsimp only at hSw); go_simp; (try with_reducible rfl)
 try simp only [Act.put, List.setIfInBounds_toArray, List.set_cons_zero, List.set_cons_succ]
 refine wpHT_takeD (i := 8) (d := 113) (v := ?_) (by kernel_rfl) rfl rfl (by decide) (by kernel_rfl) (by kernel_rfl) (fun _ _ _ h => h) (Or.inl ⟨by kernel_rfl, ?_⟩) (by assumption) ?_
 rotate_left
 · intro w hSw; (try dsimp only at hSw); go_simp; (try with_reducible rfl)
 try simp only [Act.put, List.setIfInBounds_toArray, List.set_cons_zero, List.set_cons_succ]
 refine wpHT_takeD (i := 9) (d := 114) (v := ?_) (by kernel_rfl) rfl rfl (by decide) (by kernel_rfl) (by kernel_rfl) (fun _ _ _ h => h) (Or.inl ⟨by kernel_rfl, ?_⟩) (by assumption) ?_
 rotate_left
 · intro w hSw; (try dsimp only at hSw); go_simp; (try with_reducible rfl)
 try simp only [Act.put, List.setIfInBounds_toArray, List.set_cons_zero, List.set_cons_succ]
 refine wpHT_takeD (i := 10) (d := 8) (v := ?_) (by kernel_rfl) rfl rfl (by decide) (by kernel_rfl) (by kernel_rfl) (fun _ _ _ h => h) (Or.inl ⟨by kernel_rfl, ?_⟩) (by assumption) ?_
 rotate_left
 · intro w hSw; (try dsimp only at hSw); go_simp; (try with_reducible rfl)
 try simp only [Act.put, List.setIfInBounds_toArray, List.set_cons_zero, List.set_cons_succ]
 refine wpHT_done (by kernel_rfl) ?_
 simp only [List.drop_succ_cons, List.drop_zero]
 clear hHeld c0 c1 c2 c3
 have hby := bytes_any _ _ _ _ _ _ _ _ W3 HR53.out (HO.out.2.1.below HP3.out.ab.bl)
 rw [show (o.b == o.b) = true by simp] at hby
 have HBY := Lib.hid hby
 clear hby
 go_wp2_with (go_at_call 36; ((with_reducible refine (HBY.out).mono ?_); rintro e w' ⟨rfl, rfl⟩))
 clear x3
 have HSX : Hid (∀ b, blk a5 = some b → W0.heap.size ≤ b ∧ ¬ Sx T W1 W2 b ∧ ¬ Sx T' W2.drew W3 b ∧ b ≠ q ∧ b ≠ pb) := fun b hb => by
  have h1 := HBK.out b hb
  have h2 := HS12.out
  have h3 := HP.out.ab.bl.size
  have h4 := HP.out.rb.lt
  have h5 := HP.out.ro.lt
  refine ⟨by omega, fun e => e.elim (fun e => ?_) (fun e => by omega), fun e => e.elim (fun e => ?_) (fun e => ?_), by omega, by omega⟩
  · have := HP.out.ab.l0 b e; omega
  · have := HP.out.ab.l1 b e; omega
  · have h6 : W2.heap.size ≤ b := e.1
    omega
 go_loopw [11] (fun i wr => ∃ j : Nat, j ≤ o.b.length ∧ i = .int .i64 (j : Nat) ∧ Hid (WrB wr a5 o.b.length) ∧ Hid (Fr (fun k => blk a5 = some k) W3 wr)) (fun i _ => o.b.length - (intOf i).toNat)
 case atStart => exact ⟨0, Nat.zero_le _, rfl, HW53.out, Fr.refl _ _⟩
 case round =>
  obtain ⟨j, hj, rfl, HWX, HFX⟩ := hrel
  by_cases hlj : j < o.b.length
  · obtain ⟨r, u, ha5, cu, fu, hnw⟩ := HWX.out.at hlj
    have HNW := Lib.hid hnw
    subst ha5
    clear hnw
    go_wp2_with fail
    go_roundw
    case rel => exact ⟨j + 1, by omega, by go_num, HNW.out _, HFX.out.setCell (p := ⟨r, j, none⟩) (fun _ => rfl) _⟩
    case measure => simp [intOf]; omega
  · obtain rfl : j = o.b.length := by omega
    have HG := Lib.hid ((HP3.out.beside HFX.out fun k hk => HSX.out k hk).mono (show B + 3 ≤ B + 100000003 by omega)).bb
    go_wp2_with fail
    go_ret
    exact ⟨rfl, _, _, HG.out⟩
set_option maxHeartbeats 4000000 in
theorem kd_4 {W0 w : World} {B : Int} {q d c : Nat} {dir : List UInt8} {room : Int} {s : DS} {og : Option LG} (h : BB W0 B q d c dir room s og w) (hB : B < 900000000000) (hd : dir.length ≤ 1000000) {o : OpW} {ab : Option Addr} {cb : Nat} {ap : Option Addr} {cp : Nat} (ho : OpwRd W0 (fun b => b < W0.heap.size) o ab cb ap cp) (hk : o.k = 4) {g : LG} (hg : og = some g) :
 Calls Tryz.prog 14 #[.pointer (some ⟨q, 0, none⟩), opwV o ab cb ap cp] w (DPost W0 B q d c dir room) := by
 obtain ⟨T, T', pl, pm, hT⟩ := h
 have HIO := Lib.hid (SideL.isnone hT.sl hT.sr)
 have hP := hT.pt #[.int .i64 o.k, .int .i64 o.n, .int .i64 o.m, .slice ab o.b.length cb, .string (bs o.nm), .slice ap o.p.length cp]
 obtain ⟨X, hX⟩ : ∃ X, w.alloc (.cells #[.int .i64 o.k, .int .i64 o.n, .int .i64 o.m, .slice ab o.b.length cb, .string (bs o.nm), .slice ap o.p.length cp] 48) = X := ⟨_, rfl⟩
 rw [hX] at hP
 obtain ⟨pb, hpb⟩ : ∃ pb, w.heap.size = pb := ⟨_, rfl⟩
 rw [hpb] at hP
 have HO := Lib.hid ho
 have HBD := Lib.hid hB
 have HDL := Lib.hid hd
 subst hg
 obtain ⟨l, m, rfl, rfl, hlw, hlk, hrw⟩ : ∃ l m, pl = some ⟨l, 0, none⟩ ∧ pm = some ⟨m, 0, none⟩ ∧ LWS B w d l T s g ∧ LOk s g ∧ RWS w c m T' s g := by
  rcases HIO.out with ⟨_, _, h⟩ | ⟨l, m, g', h1, h2, h3, h4, h5, h6⟩
  · cases h
  · cases h3; exact ⟨l, m, h1, h2, h4, h5, h6⟩
 have HLK := Lib.hid hlk
 unfold opwV
 rw [hk] at hX hP ⊢
 have HP := Lib.hid hP
 obtain ⟨c0, c1, c2, c3⟩ := hP.cq
 have x0 := hP.co 0
 have x1 := hP.co 1
 simp only [List.getElem?_toArray, List.getElem?_cons_zero] at x0
 simp only [List.getElem?_toArray, List.getElem?_cons_zero, List.getElem?_cons_succ] at x1
 clear hT hP ho hB hd HIO hlw hlk hrw
 go_enter Tryz.func14, Tryz.ntmps14
 obtain ⟨p, hp⟩ : ∃ p, (if hasL g o.n then recL g o.n else []) = p := ⟨_, rfl⟩
 obtain ⟨E, hE⟩ : ∃ E, (if hasL g o.n then (0 : Int) else 8) = E := ⟨_, rfl⟩
 have HPP := Lib.hid hp
 have HE := Lib.hid hE
 clear hp hE
 go_wp2_with fail
 clear hX hpb x0
 refine wp_region_ht 11 (fun W => W.cell? ⟨q, 2, none⟩ = some (.pointer (some ⟨l, 0, none⟩)) ∧ W.cell? ⟨pb, 1, none⟩ = some (.int .i64 o.n)) (by kernel_rfl) (by kernel_rfl) ?_ (fun hHeld => ?_)
 · exact ⟨c2, x1⟩
 try simp only [Act.put, List.setIfInBounds_toArray, List.set_cons_zero, List.set_cons_succ]
 refine wpHT_takeD (i := 0) (d := 178) (v := ?_) (by kernel_rfl) rfl rfl (by decide) (by kernel_rfl) (by kernel_rfl) (fun _ _ _ h => h) (Or.inl ⟨by kernel_rfl, ?_⟩) (by assumption) ?_
 rotate_left
 · intro w hSw; (try dsimp only at hSw); go_simp; (try with_reducible rfl)
 try simp only [Act.put, List.setIfInBounds_toArray, List.set_cons_zero, List.set_cons_succ]
 refine wpHT_takeD (i := 1) (d := 179) (v := ?_) (by kernel_rfl) rfl rfl (by decide) (by kernel_rfl) (by kernel_rfl) (fun _ _ _ h => h) (Or.inl ⟨by kernel_rfl, ?_⟩) (by assumption) ?_
 rotate_left
 · intro w hSw; (try dsimp only at hSw); go_simp; (try with_reducible rfl)
 try simp only [Act.put, List.setIfInBounds_toArray, List.set_cons_zero, List.set_cons_succ]
 refine wpHT_takeD (i := 2) (d := 180) (v := ?_) (by kernel_rfl) rfl rfl (by decide) (by kernel_rfl) (by kernel_rfl) (fun _ _ _ h => h) (Or.inl ⟨by kernel_rfl, ?_⟩) (by assumption) ?_
 rotate_left
 · intro w hSw; (try dsimp only at hSw); go_simp; (try with_reducible rfl)
 try simp only [Act.put, List.setIfInBounds_toArray, List.set_cons_zero, List.set_cons_succ]
 refine wpHT_takeD (i := 3) (d := 181) (v := ?_) (by kernel_rfl) rfl rfl (by decide) (by kernel_rfl) (by kernel_rfl) (fun _ _ _ h => h) (Or.inl ⟨by kernel_rfl, ?_⟩) (by assumption) ?_
 rotate_left
 · intro w hSw; (try dsimp only at hSw); go_simp; (try with_reducible rfl)
 try simp only [Act.put, List.setIfInBounds_toArray, List.set_cons_zero, List.set_cons_succ]
 refine wpHT_takeD (i := 4) (d := 182) (v := ?_) (by kernel_rfl) rfl rfl (by decide) (by kernel_rfl) (by kernel_rfl) (fun _ _ _ h => h) (Or.inl ⟨by kernel_rfl, ?_⟩) (by assumption) ?_
 rotate_left
 · intro w hSw; (try dsimp only at hSw); go_simp; (try with_reducible rfl)
 try simp only [Act.put, List.setIfInBounds_toArray, List.set_cons_zero, List.set_cons_succ]
 refine wpHT_takeD (i := 5) (d := 183) (v := ?_) (by kernel_rfl) rfl rfl (by decide) (by kernel_rfl) (by kernel_rfl) (fun _ _ _ h => h) (Or.inl ⟨by kernel_rfl, ?_⟩) (by assumption) ?_
 rotate_left
 · intro w hSw; (try dsimp only at hSw); go_simp; (try with_reducible rfl)
 try simp only [Act.put, List.setIfInBounds_toArray, List.set_cons_zero, List.set_cons_succ]
 refine wpHT_one (i := 6) (by kernel_rfl) rfl (by decide) (fun K hK => ?_)
 go_simp
 go_at_call 34
 have hP1 := HP.out.new (Below.refl _ X).drew
 obtain ⟨l2, e2, lw2, _⟩ := hP1.sl
 obtain rfl : l = l2 := by simpa using e2
 obtain ⟨Sl, hl⟩ := lw2.lg
 have hr := wread_any hl HLK.out o.n HO.out.1.2.1.1 HO.out.1.2.1.2
 unfold WReadPost at hr
 rw [HPP.out, HE.out] at hr
 refine hr.mono ?_
 rintro e W1 ⟨v, rfl, hov, hb⟩
 obtain ⟨a6, c6, rfl, hr6⟩ := hov.rd
 have HR6 := Lib.hid hr6
 have HP2 := Lib.hid (hP1.new hb)
 clear hP1 hl lw2 e2 hr hov hb hr6
 obtain ⟨c0, c1, c2, c3⟩ := HP2.out.cq
 have x1 := HP2.out.co 1
 simp only [List.getElem?_toArray, List.getElem?_cons_zero, List.getElem?_cons_succ] at x1
 refine hK.out _ _ ?_ (fun hHeld => ?_)
 · exact ⟨c2, x1⟩
 clear hK K
 try simp only [Act.put, List.setIfInBounds_toArray, List.set_cons_zero, List.set_cons_succ]
 refine wpHT_takeD (i := 7) (d := 177) (v := ?_) (by kernel_rfl) rfl rfl (by decide) (by kernel_rfl) (by kernel_rfl) (fun _ _ _ h => h) (Or.inl ⟨by kernel_rfl, ?_⟩) (by assumption) ?_
 rotate_left
 · intro w hSw; (try dsimp only at hSw); go_simp; (try with_reducible rfl)
 try simp only [Act.put, List.setIfInBounds_toArray, List.set_cons_zero, List.set_cons_succ]
 refine wpHT_takeD (i := 8) (d := 185) (v := ?_) (by kernel_rfl) rfl rfl (by decide) (by kernel_rfl) (by kernel_rfl) (fun _ _ _ h => h) (Or.inl ⟨by kernel_rfl, ?_⟩) (by assumption) ?_
 rotate_left
 · intro w hSw; (try dsimp only at hSw); go_simp; (try with_reducible rfl)
 try simp only [Act.put, List.setIfInBounds_toArray, List.set_cons_zero, List.set_cons_succ]
 refine wpHT_takeD (i := 9) (d := 186) (v := ?_) (by kernel_rfl) rfl rfl (by decide) (by kernel_rfl) (by kernel_rfl) (fun _ _ _ h => h) (Or.inl ⟨by kernel_rfl, ?_⟩) (by assumption) ?_
 rotate_left
 · intro w hSw; (try dsimp only at hSw); go_simp; (try with_reducible rfl)
 try simp only [Act.put, List.setIfInBounds_toArray, List.set_cons_zero, List.set_cons_succ]
 refine wpHT_takeD (i := 10) (d := 12) (v := ?_) (by kernel_rfl) rfl rfl (by decide) (by kernel_rfl) (by kernel_rfl) (fun _ _ _ h => h) (Or.inl ⟨by kernel_rfl, ?_⟩) (by assumption) ?_
 rotate_left
 · intro w hSw; (try dsimp only at hSw); go_simp; (try with_reducible rfl)
 try simp only [Act.put, List.setIfInBounds_toArray, List.set_cons_zero, List.set_cons_succ]
 refine wpHT_done (by kernel_rfl) ?_
 simp only [List.drop_succ_cons, List.drop_zero]
 clear hHeld
 go_wp2_with fail
 refine wp_region_ht 11 (fun W => W.cell? ⟨q, 3, none⟩ = some (.pointer (some ⟨m, 0, none⟩)) ∧ W.cell? ⟨pb, 1, none⟩ = some (.int .i64 o.n)) (by kernel_rfl) (by kernel_rfl) ?_ (fun hHeld => ?_)
 · exact ⟨c3, x1⟩
 try simp only [Act.put, List.setIfInBounds_toArray, List.set_cons_zero, List.set_cons_succ]
 refine wpHT_takeD (i := 0) (d := 188) (v := ?_) (by kernel_rfl) rfl rfl (by decide) (by kernel_rfl) (by kernel_rfl) (fun _ _ _ h => h) (Or.inl ⟨by kernel_rfl, ?_⟩) (by assumption) ?_
 rotate_left
 · intro w hSw; (try dsimp only at hSw); go_simp; (try with_reducible rfl)
 try simp only [Act.put, List.setIfInBounds_toArray, List.set_cons_zero, List.set_cons_succ]
 refine wpHT_takeD (i := 1) (d := 189) (v := ?_) (by kernel_rfl) rfl rfl (by decide) (by kernel_rfl) (by kernel_rfl) (fun _ _ _ h => h) (Or.inl ⟨by kernel_rfl, ?_⟩) (by assumption) ?_
 rotate_left
 · intro w hSw; (try dsimp only at hSw); go_simp; (try with_reducible rfl)
 try simp only [Act.put, List.setIfInBounds_toArray, List.set_cons_zero, List.set_cons_succ]
 refine wpHT_takeD (i := 2) (d := 190) (v := ?_) (by kernel_rfl) rfl rfl (by decide) (by kernel_rfl) (by kernel_rfl) (fun _ _ _ h => h) (Or.inl ⟨by kernel_rfl, ?_⟩) (by assumption) ?_
 rotate_left
 · intro w hSw; (try dsimp only at hSw); go_simp; (try with_reducible rfl)
 try simp only [Act.put, List.setIfInBounds_toArray, List.set_cons_zero, List.set_cons_succ]
 refine wpHT_takeD (i := 3) (d := 191) (v := ?_) (by kernel_rfl) rfl rfl (by decide) (by kernel_rfl) (by kernel_rfl) (fun _ _ _ h => h) (Or.inl ⟨by kernel_rfl, ?_⟩) (by assumption) ?_
 rotate_left
 · intro w hSw; (try dsimp only at hSw); go_simp; (try with_reducible rfl)
 try simp only [Act.put, List.setIfInBounds_toArray, List.set_cons_zero, List.set_cons_succ]
 refine wpHT_takeD (i := 4) (d := 192) (v := ?_) (by kernel_rfl) rfl rfl (by decide) (by kernel_rfl) (by kernel_rfl) (fun _ _ _ h => h) (Or.inl ⟨by kernel_rfl, ?_⟩) (by assumption) ?_
 rotate_left
 · intro w hSw; (try dsimp only at hSw); go_simp; (try with_reducible rfl)
 try simp only [Act.put, List.setIfInBounds_toArray, List.set_cons_zero, List.set_cons_succ]
 refine wpHT_takeD (i := 5) (d := 193) (v := ?_) (by kernel_rfl) rfl rfl (by decide) (by kernel_rfl) (by kernel_rfl) (fun _ _ _ h => h) (Or.inl ⟨by kernel_rfl, ?_⟩) (by assumption) ?_
 rotate_left
 · intro w hSw; (try dsimp only at hSw); go_simp; (try with_reducible rfl)
 try simp only [Act.put, List.setIfInBounds_toArray, List.set_cons_zero, List.set_cons_succ]
 refine wpHT_one (i := 6) (by kernel_rfl) rfl (by decide) (fun K hK => ?_)
 go_simp
 go_at_call 35
 have hP1 := HP2.out.new (Below.refl _ W1).drew
 obtain ⟨m2, e2, rw2⟩ := hP1.sr
 obtain rfl : m = m2 := by simpa using e2
 obtain ⟨Sl, hl, _⟩ := rw2.lg
 have hr := rreadL_any hl HLK.out o.n HO.out.1.2.1.1 HO.out.1.2.1.2
 unfold RReadPost7 at hr
 rw [HPP.out, HE.out] at hr
 refine hr.mono ?_
 rintro e W2x ⟨a8, c8, rfl, hr8, _, i3, hw2⟩
 have hb2 : Below W1.heap.size W1 W2x := by rw [hw2]; exact below_dn (Below.refl _ W1).drew i3
 clear hw2
 have HR8 := Lib.hid hr8
 have HR62 := Lib.hid (HR6.out.below hb2)
 have HP3 := Lib.hid (HP2.out.new hb2)
 clear hP1 hl rw2 e2 hr hb2 hr8
 obtain ⟨c0, c1, c2, c3⟩ := HP3.out.cq
 have x1 := HP3.out.co 1
 simp only [List.getElem?_toArray, List.getElem?_cons_zero, List.getElem?_cons_succ] at x1
 refine hK.out _ _ ?_ (fun hHeld => ?_)
 · exact ⟨c3, x1⟩
 clear hK K
 try simp only [Act.put, List.setIfInBounds_toArray, List.set_cons_zero, List.set_cons_succ]
 refine wpHT_takeD (i := 7) (d := 187) (v := ?_) (by kernel_rfl) rfl rfl (by decide) (by kernel_rfl) (by kernel_rfl) (fun _ _ _ h => h) (Or.inl ⟨by kernel_rfl, ?_⟩) (by assumption) ?_
 rotate_left
 · intro w hSw; (try dsimp only at hSw); go_simp; (try with_reducible rfl)
 try simp only [Act.put, List.setIfInBounds_toArray, List.set_cons_zero, List.set_cons_succ]
 refine wpHT_takeD (i := 8) (d := 195) (v := ?_) (by kernel_rfl) rfl rfl (by decide) (by kernel_rfl) (by kernel_rfl) (fun _ _ _ h => h) (Or.inl ⟨by kernel_rfl, ?_⟩) (by assumption) ?_
 rotate_left
 · intro w hSw; (try dsimp only at hSw); go_simp; (try with_reducible rfl)
 try simp only [Act.put, List.setIfInBounds_toArray, List.set_cons_zero, List.set_cons_succ]
 refine wpHT_takeD (i := 9) (d := 196) (v := ?_) (by kernel_rfl) rfl rfl (by decide) (by kernel_rfl) (by kernel_rfl) (fun _ _ _ h => h) (Or.inl ⟨by kernel_rfl, ?_⟩) (by assumption) ?_
 rotate_left
 · intro w hSw; (try dsimp only at hSw); go_simp; (try with_reducible rfl)
 try simp only [Act.put, List.setIfInBounds_toArray, List.set_cons_zero, List.set_cons_succ]
 refine wpHT_takeD (i := 10) (d := 14) (v := ?_) (by kernel_rfl) rfl rfl (by decide) (by kernel_rfl) (by kernel_rfl) (fun _ _ _ h => h) (Or.inl ⟨by kernel_rfl, ?_⟩) (by assumption) ?_
 rotate_left
 · intro w hSw; (try dsimp only at hSw); go_simp; (try with_reducible rfl)
 try simp only [Act.put, List.setIfInBounds_toArray, List.set_cons_zero, List.set_cons_succ]
 refine wpHT_done (by kernel_rfl) ?_
 simp only [List.drop_succ_cons, List.drop_zero]
 clear hHeld c0 c1 c2 c3 x1
 have hby := bytes_any _ _ _ _ _ _ _ _ W2x HR62.out HR8.out
 rw [show (p == p) = true by simp] at hby
 have HBY := Lib.hid hby
 clear hby
 go_wp2_with (go_at_call 36; ((with_reducible refine (HBY.out).mono ?_); rintro e w' ⟨rfl, rfl⟩))
 go_ret
 exact ⟨rfl, _, _, (HP3.out.mono (by omega)).bb⟩
set_option maxHeartbeats 4000000 in
theorem kd_5 {W0 w : World} {B : Int} {q d c : Nat} {dir : List UInt8} {room : Int} {s : DS} {og : Option LG} (h : BB W0 B q d c dir room s og w) (hB : B < 900000000000) (hd : dir.length ≤ 1000000) {o : OpW} {ab : Option Addr} {cb : Nat} {ap : Option Addr} {cp : Nat} (ho : OpwRd W0 (fun b => b < W0.heap.size) o ab cb ap cp) (hk : o.k = 5) {g : LG} (hg : og = some g) :
 Calls Tryz.prog 14 #[.pointer (some ⟨q, 0, none⟩), opwV o ab cb ap cp] w (DPost W0 B q d c dir room) := by
 obtain ⟨T, T', pl, pm, hT⟩ := h
 have HIO := Lib.hid (SideL.isnone hT.sl hT.sr)
 have hP := hT.pt #[.int .i64 o.k, .int .i64 o.n, .int .i64 o.m, .slice ab o.b.length cb, .string (bs o.nm), .slice ap o.p.length cp]
 obtain ⟨X, hX⟩ : ∃ X, w.alloc (.cells #[.int .i64 o.k, .int .i64 o.n, .int .i64 o.m, .slice ab o.b.length cb, .string (bs o.nm), .slice ap o.p.length cp] 48) = X := ⟨_, rfl⟩
 rw [hX] at hP
 obtain ⟨pb, hpb⟩ : ∃ pb, w.heap.size = pb := ⟨_, rfl⟩
 rw [hpb] at hP
 have HO := Lib.hid ho
 have HBD := Lib.hid hB
 have HDL := Lib.hid hd
 subst hg
 obtain ⟨l, m, rfl, rfl, hlw, hlk, hrw⟩ : ∃ l m, pl = some ⟨l, 0, none⟩ ∧ pm = some ⟨m, 0, none⟩ ∧ LWS B w d l T s g ∧ LOk s g ∧ RWS w c m T' s g := by
  rcases HIO.out with ⟨_, _, h⟩ | ⟨l, m, g', h1, h2, h3, h4, h5, h6⟩
  · cases h
  · cases h3; exact ⟨l, m, h1, h2, h4, h5, h6⟩
 have HLK := Lib.hid hlk
 unfold opwV
 rw [hk] at hX hP ⊢
 have HP := Lib.hid hP
 obtain ⟨c0, c1, c2, c3⟩ := hP.cq
 have x0 := hP.co 0
 have x1 := hP.co 1
 have x2 := hP.co 2
 simp only [List.getElem?_toArray, List.getElem?_cons_zero] at x0
 simp only [List.getElem?_toArray, List.getElem?_cons_zero, List.getElem?_cons_succ] at x1
 simp only [List.getElem?_toArray, List.getElem?_cons_zero, List.getElem?_cons_succ] at x2
 clear hT hP ho hB hd HIO hlw hlk hrw
 go_enter Tryz.func14, Tryz.ntmps14
 obtain ⟨p, hp⟩ : ∃ p, (if mayL g o.n then fromL g o.n o.m else []) = p := ⟨_, rfl⟩
 obtain ⟨E, hE⟩ : ∃ E, (if mayL g o.n then (0 : Int) else 8) = E := ⟨_, rfl⟩
 have HPP := Lib.hid hp
 have HE := Lib.hid hE
 clear hp hE
 go_wp2_with fail
 clear hX hpb x0
 refine wp_region_ht 13 (fun W => W.cell? ⟨q, 2, none⟩ = some (.pointer (some ⟨l, 0, none⟩)) ∧ W.cell? ⟨pb, 1, none⟩ = some (.int .i64 o.n) ∧ W.cell? ⟨pb, 2, none⟩ = some (.int .i64 o.m)) (by kernel_rfl) (by kernel_rfl) ?_ (fun hHeld => ?_)
 · exact ⟨c2, x1, x2⟩
 try simp only [Act.put, List.setIfInBounds_toArray, List.set_cons_zero, List.set_cons_succ]
 refine wpHT_takeD (i := 0) (d := 210) (v := ?_) (by kernel_rfl) rfl rfl (by decide) (by kernel_rfl) (by kernel_rfl) (fun _ _ _ h => h) (Or.inl ⟨by kernel_rfl, ?_⟩) (by assumption) ?_
 rotate_left
 · intro w hSw; (try dsimp only at hSw); go_simp; (try with_reducible rfl)
 try simp only [Act.put, List.setIfInBounds_toArray, List.set_cons_zero, List.set_cons_succ]
 refine wpHT_takeD (i := 1) (d := 211) (v := ?_) (by kernel_rfl) rfl rfl (by decide) (by kernel_rfl) (by kernel_rfl) (fun _ _ _ h => h) (Or.inl ⟨by kernel_rfl, ?_⟩) (by assumption) ?_
 rotate_left
 · intro w hSw; (try dsimp only at hSw); go_simp; (try with_reducible rfl)
 try simp only [Act.put, List.setIfInBounds_toArray, List.set_cons_zero, List.set_cons_succ]
 refine wpHT_takeD (i := 2) (d := 212) (v := ?_) (by kernel_rfl) rfl rfl (by decide) (by kernel_rfl) (by kernel_rfl) (fun _ _ _ h => h) (Or.inl ⟨by kernel_rfl, ?_⟩) (by assumption) ?_
 rotate_left
 · intro w hSw; (try dsimp only at hSw); go_simp; (try with_reducible rfl)
 try simp only [Act.put, List.setIfInBounds_toArray, List.set_cons_zero, List.set_cons_succ]
 refine wpHT_takeD (i := 3) (d := 213) (v := ?_) (by kernel_rfl) rfl rfl (by decide) (by kernel_rfl) (by kernel_rfl) (fun _ _ _ h => h) (Or.inl ⟨by kernel_rfl, ?_⟩) (by assumption) ?_
 rotate_left
 · intro w hSw; (try dsimp only at hSw); go_simp; (try with_reducible rfl)
 try simp only [Act.put, List.setIfInBounds_toArray, List.set_cons_zero, List.set_cons_succ]
 refine wpHT_takeD (i := 4) (d := 214) (v := ?_) (by kernel_rfl) rfl rfl (by decide) (by kernel_rfl) (by kernel_rfl) (fun _ _ _ h => h) (Or.inl ⟨by kernel_rfl, ?_⟩) (by assumption) ?_
 rotate_left
 · intro w hSw; (try dsimp only at hSw); go_simp; (try with_reducible rfl)
 try simp only [Act.put, List.setIfInBounds_toArray, List.set_cons_zero, List.set_cons_succ]
 refine wpHT_takeD (i := 5) (d := 215) (v := ?_) (by kernel_rfl) rfl rfl (by decide) (by kernel_rfl) (by kernel_rfl) (fun _ _ _ h => h) (Or.inl ⟨by kernel_rfl, ?_⟩) (by assumption) ?_
 rotate_left
 · intro w hSw; (try dsimp only at hSw); go_simp; (try with_reducible rfl)
 try simp only [Act.put, List.setIfInBounds_toArray, List.set_cons_zero, List.set_cons_succ]
 refine wpHT_takeD (i := 6) (d := 216) (v := ?_) (by kernel_rfl) rfl rfl (by decide) (by kernel_rfl) (by kernel_rfl) (fun _ _ _ h => h) (Or.inl ⟨by kernel_rfl, ?_⟩) (by assumption) ?_
 rotate_left
 · intro w hSw; (try dsimp only at hSw); go_simp; (try with_reducible rfl)
 try simp only [Act.put, List.setIfInBounds_toArray, List.set_cons_zero, List.set_cons_succ]
 refine wpHT_takeD (i := 7) (d := 217) (v := ?_) (by kernel_rfl) rfl rfl (by decide) (by kernel_rfl) (by kernel_rfl) (fun _ _ _ h => h) (Or.inl ⟨by kernel_rfl, ?_⟩) (by assumption) ?_
 rotate_left
 · intro w hSw; (try dsimp only at hSw); go_simp; (try with_reducible rfl)
 try simp only [Act.put, List.setIfInBounds_toArray, List.set_cons_zero, List.set_cons_succ]
 refine wpHT_one (i := 8) (by kernel_rfl) rfl (by decide) (fun K hK => ?_)
 go_simp
 go_at_call 19
 have hP1 := HP.out.new (Below.refl _ X).drew
 obtain ⟨l2, e2, lw2, _⟩ := hP1.sl
 obtain rfl : l = l2 := by simpa using e2
 obtain ⟨Sl, hl⟩ := lw2.lg
 have hr := wfrom_any hl HLK.out o.n o.m HO.out.1.2.1.1 HO.out.1.2.1.2
 unfold WFromPost at hr
 rw [HPP.out, HE.out] at hr
 refine hr.mono ?_
 rintro e W1 ⟨v, vs, rfl, hov, hb⟩
 obtain ⟨a6, c6, rfl, hr6⟩ := hov.rd
 have HR6 := Lib.hid hr6
 have HP2 := Lib.hid (hP1.new hb)
 clear hP1 hl lw2 e2 hr hov hb hr6
 obtain ⟨c0, c1, c2, c3⟩ := HP2.out.cq
 have x1 := HP2.out.co 1
 simp only [List.getElem?_toArray, List.getElem?_cons_zero, List.getElem?_cons_succ] at x1
 have x2 := HP2.out.co 2
 simp only [List.getElem?_toArray, List.getElem?_cons_zero, List.getElem?_cons_succ] at x2
 refine hK.out _ _ ?_ (fun hHeld => ?_)
 · exact ⟨c2, x1, x2⟩
 clear hK K
 try simp only [Act.put, List.setIfInBounds_toArray, List.set_cons_zero, List.set_cons_succ]
 refine wpHT_takeD (i := 9) (d := 209) (v := ?_) (by kernel_rfl) rfl rfl (by decide) (by kernel_rfl) (by kernel_rfl) (fun _ _ _ h => h) (Or.inl ⟨by kernel_rfl, ?_⟩) (by assumption) ?_
 rotate_left
 · intro w hSw; (try dsimp only at hSw); go_simp; (try with_reducible rfl)
 try simp only [Act.put, List.setIfInBounds_toArray, List.set_cons_zero, List.set_cons_succ]
 refine wpHT_takeD (i := 10) (d := 219) (v := ?_) (by kernel_rfl) rfl rfl (by decide) (by kernel_rfl) (by kernel_rfl) (fun _ _ _ h => h) (Or.inl ⟨by kernel_rfl, ?_⟩) (by assumption) ?_
 rotate_left
 · intro w hSw; (try dsimp only at hSw); go_simp; (try with_reducible rfl)
 try simp only [Act.put, List.setIfInBounds_toArray, List.set_cons_zero, List.set_cons_succ]
 refine wpHT_takeD (i := 11) (d := 220) (v := ?_) (by kernel_rfl) rfl rfl (by decide) (by kernel_rfl) (by kernel_rfl) (fun _ _ _ h => h) (Or.inl ⟨by kernel_rfl, ?_⟩) (by assumption) ?_
 rotate_left
 · intro w hSw; (try dsimp only at hSw); go_simp; (try with_reducible rfl)
 try simp only [Act.put, List.setIfInBounds_toArray, List.set_cons_zero, List.set_cons_succ]
 refine wpHT_takeD (i := 12) (d := 16) (v := ?_) (by kernel_rfl) rfl rfl (by decide) (by kernel_rfl) (by kernel_rfl) (fun _ _ _ h => h) (Or.inl ⟨by kernel_rfl, ?_⟩) (by assumption) ?_
 rotate_left
 · intro w hSw; (try dsimp only at hSw); go_simp; (try with_reducible rfl)
 try simp only [Act.put, List.setIfInBounds_toArray, List.set_cons_zero, List.set_cons_succ]
 refine wpHT_done (by kernel_rfl) ?_
 simp only [List.drop_succ_cons, List.drop_zero]
 clear hHeld
 go_wp2_with fail
 refine wp_region_ht 13 (fun W => W.cell? ⟨q, 3, none⟩ = some (.pointer (some ⟨m, 0, none⟩)) ∧ W.cell? ⟨pb, 1, none⟩ = some (.int .i64 o.n) ∧ W.cell? ⟨pb, 2, none⟩ = some (.int .i64 o.m)) (by kernel_rfl) (by kernel_rfl) ?_ (fun hHeld => ?_)
 · exact ⟨c3, x1, x2⟩
 try simp only [Act.put, List.setIfInBounds_toArray, List.set_cons_zero, List.set_cons_succ]
 refine wpHT_takeD (i := 0) (d := 222) (v := ?_) (by kernel_rfl) rfl rfl (by decide) (by kernel_rfl) (by kernel_rfl) (fun _ _ _ h => h) (Or.inl ⟨by kernel_rfl, ?_⟩) (by assumption) ?_
 rotate_left
 · intro w hSw; (try dsimp only at hSw); go_simp; (try with_reducible rfl)
 try simp only [Act.put, List.setIfInBounds_toArray, List.set_cons_zero, List.set_cons_succ]
 refine wpHT_takeD (i := 1) (d := 223) (v := ?_) (by kernel_rfl) rfl rfl (by decide) (by kernel_rfl) (by kernel_rfl) (fun _ _ _ h => h) (Or.inl ⟨by kernel_rfl, ?_⟩) (by assumption) ?_
 rotate_left
 · intro w hSw; (try dsimp only at hSw); go_simp; (try with_reducible rfl)
 try simp only [Act.put, List.setIfInBounds_toArray, List.set_cons_zero, List.set_cons_succ]
 refine wpHT_takeD (i := 2) (d := 224) (v := ?_) (by kernel_rfl) rfl rfl (by decide) (by kernel_rfl) (by kernel_rfl) (fun _ _ _ h => h) (Or.inl ⟨by kernel_rfl, ?_⟩) (by assumption) ?_
 rotate_left
 · intro w hSw; (try dsimp only at hSw); go_simp; (try with_reducible rfl)
 try simp only [Act.put, List.setIfInBounds_toArray, List.set_cons_zero, List.set_cons_succ]
 refine wpHT_takeD (i := 3) (d := 225) (v := ?_) (by kernel_rfl) rfl rfl (by decide) (by kernel_rfl) (by kernel_rfl) (fun _ _ _ h => h) (Or.inl ⟨by kernel_rfl, ?_⟩) (by assumption) ?_
 rotate_left
 · intro w hSw; (try dsimp only at hSw); go_simp; (try with_reducible rfl)
 try simp only [Act.put, List.setIfInBounds_toArray, List.set_cons_zero, List.set_cons_succ]
 refine wpHT_takeD (i := 4) (d := 226) (v := ?_) (by kernel_rfl) rfl rfl (by decide) (by kernel_rfl) (by kernel_rfl) (fun _ _ _ h => h) (Or.inl ⟨by kernel_rfl, ?_⟩) (by assumption) ?_
 rotate_left
 · intro w hSw; (try dsimp only at hSw); go_simp; (try with_reducible rfl)
 try simp only [Act.put, List.setIfInBounds_toArray, List.set_cons_zero, List.set_cons_succ]
 refine wpHT_takeD (i := 5) (d := 227) (v := ?_) (by kernel_rfl) rfl rfl (by decide) (by kernel_rfl) (by kernel_rfl) (fun _ _ _ h => h) (Or.inl ⟨by kernel_rfl, ?_⟩) (by assumption) ?_
 rotate_left
 · intro w hSw; (try dsimp only at hSw); go_simp; (try with_reducible rfl)
 try simp only [Act.put, List.setIfInBounds_toArray, List.set_cons_zero, List.set_cons_succ]
 refine wpHT_takeD (i := 6) (d := 228) (v := ?_) (by kernel_rfl) rfl rfl (by decide) (by kernel_rfl) (by kernel_rfl) (fun _ _ _ h => h) (Or.inl ⟨by kernel_rfl, ?_⟩) (by assumption) ?_
 rotate_left
 · intro w hSw; (try dsimp only at hSw); go_simp; (try with_reducible rfl)
 try simp only [Act.put, List.setIfInBounds_toArray, List.set_cons_zero, List.set_cons_succ]
 refine wpHT_takeD (i := 7) (d := 229) (v := ?_) (by kernel_rfl) rfl rfl (by decide) (by kernel_rfl) (by kernel_rfl) (fun _ _ _ h => h) (Or.inl ⟨by kernel_rfl, ?_⟩) (by assumption) ?_
 rotate_left
 · intro w hSw; (try dsimp only at hSw); go_simp; (try with_reducible rfl)
 try simp only [Act.put, List.setIfInBounds_toArray, List.set_cons_zero, List.set_cons_succ]
 refine wpHT_one (i := 8) (by kernel_rfl) rfl (by decide) (fun K hK => ?_)
 go_simp
 go_at_call 45
 have hP1 := HP2.out.new (Below.refl _ W1).drew
 obtain ⟨m2, e2, rw2⟩ := hP1.sr
 obtain rfl : m = m2 := by simpa using e2
 obtain ⟨Sl, hl, _⟩ := rw2.lg
 have hr := rfromL_any hl HLK.out o.n o.m HO.out.1.2.1.1 HO.out.1.2.1.2
 unfold RFromPost at hr
 rw [HPP.out, HE.out] at hr
 refine hr.mono ?_
 rintro e W2x ⟨a8, c8, rfl, hr8, hb3⟩
 have hb2 : Below W1.heap.size W1 W2x := (Below.refl _ W1).drew.trans hb3
 have HR8 := Lib.hid hr8
 have HR62 := Lib.hid (HR6.out.below hb2)
 have HP3 := Lib.hid (HP2.out.new hb2)
 clear hP1 hl rw2 e2 hr hb2 hb3 hr8
 obtain ⟨c0, c1, c2, c3⟩ := HP3.out.cq
 have x1 := HP3.out.co 1
 simp only [List.getElem?_toArray, List.getElem?_cons_zero, List.getElem?_cons_succ] at x1
 have x2 := HP3.out.co 2
 simp only [List.getElem?_toArray, List.getElem?_cons_zero, List.getElem?_cons_succ] at x2
 refine hK.out _ _ ?_ (fun hHeld => ?_)
 · exact ⟨c3, x1, x2⟩
 clear hK K
 try simp only [Act.put, List.setIfInBounds_toArray, List.set_cons_zero, List.set_cons_succ]
 refine wpHT_takeD (i := 9) (d := 221) (v := ?_) (by kernel_rfl) rfl rfl (by decide) (by kernel_rfl) (by kernel_rfl) (fun _ _ _ h => h) (Or.inl ⟨by kernel_rfl, ?_⟩) (by assumption) ?_
 rotate_left
 · intro w hSw; (try dsimp only at hSw); go_simp; (try with_reducible rfl)
 try simp only [Act.put, List.setIfInBounds_toArray, List.set_cons_zero, List.set_cons_succ]
 refine wpHT_takeD (i := 10) (d := 231) (v := ?_) (by kernel_rfl) rfl rfl (by decide) (by kernel_rfl) (by kernel_rfl) (fun _ _ _ h => h) (Or.inl ⟨by kernel_rfl, ?_⟩) (by assumption) ?_
 rotate_left
 · intro w hSw; (try dsimp only at hSw); go_simp; (try with_reducible rfl)
 try simp only [Act.put, List.setIfInBounds_toArray, List.set_cons_zero, List.set_cons_succ]
 refine wpHT_takeD (i := 11) (d := 232) (v := ?_) (by kernel_rfl) rfl rfl (by decide) (by kernel_rfl) (by kernel_rfl) (fun _ _ _ h => h) (Or.inl ⟨by kernel_rfl, ?_⟩) (by assumption) ?_
 rotate_left
 · intro w hSw; (try dsimp only at hSw); go_simp; (try with_reducible rfl)
 try simp only [Act.put, List.setIfInBounds_toArray, List.set_cons_zero, List.set_cons_succ]
 refine wpHT_takeD (i := 12) (d := 18) (v := ?_) (by kernel_rfl) rfl rfl (by decide) (by kernel_rfl) (by kernel_rfl) (fun _ _ _ h => h) (Or.inl ⟨by kernel_rfl, ?_⟩) (by assumption) ?_
 rotate_left
 · intro w hSw; (try dsimp only at hSw); go_simp; (try with_reducible rfl)
 try simp only [Act.put, List.setIfInBounds_toArray, List.set_cons_zero, List.set_cons_succ]
 refine wpHT_done (by kernel_rfl) ?_
 simp only [List.drop_succ_cons, List.drop_zero]
 clear hHeld c0 c1 c2 c3 x1 x2
 have hby := wrows_any _ _ _ _ _ _ _ _ W2x HR62.out HR8.out
 rw [show (p == p) = true by simp] at hby
 have HBY := Lib.hid hby
 clear hby
 go_wp2_with (go_at_call 46; ((with_reducible refine (HBY.out).mono ?_); rintro e w' ⟨rfl, nd, rfl⟩))
 go_ret
 exact ⟨rfl, _, _, ((HP3.out.new (below_dn (Below.refl _ _) nd)).mono (by omega)).bb⟩
theorem wdoes_any {W0 w : World} {B : Int} {q d c : Nat} {dir : List UInt8} {room : Int} {s : DS} {og : Option LG} (h : BB W0 B q d c dir room s og w) (hB : B < 900000000000) (hd : dir.length ≤ 1000000) {o : OpW} {ab : Option Addr} {cb : Nat} {ap : Option Addr} {cp : Nat} (ho : OpwRd W0 (fun b => b < W0.heap.size) o ab cb ap cp) (hn : o.k = 9 → o.nm.length ≤ 4) (hb : o.b.length ≤ 20000) :
 Calls Tryz.prog 14 #[.pointer (some ⟨q, 0, none⟩), opwV o ab cb ap cp] w (DPost W0 B q d c dir room) := by
 by_cases h6 : o.k = 6
 · exact kd_6 h hB hd ho h6
 by_cases h7 : o.k = 7
 · exact kd_7 h hB hd ho h7
 by_cases h8 : o.k = 8
 · exact kd_8 h hB hd ho h8
 by_cases h9 : o.k = 9
 · exact kd_9 h hB hd ho h9 (hn h9)
 cases hg : og with
 | none => exact kd_none h hB hd ho h6 h7 h8 h9 hg
 | some g =>
 by_cases h1 : o.k = 1
 · exact kd_1 h hB hd ho hb h1 hg
 by_cases h2 : o.k = 2
 · exact kd_2 h hB hd ho h2 hg
 by_cases h3 : o.k = 3
 · exact kd_3 h hB hd ho h3 hg
 by_cases h4 : o.k = 4
 · exact kd_4 h hB hd ho h4 hg
 by_cases h5 : o.k = 5
 · exact kd_5 h hB hd ho h5 hg
 exact kd_0 h hB hd ho h6 h7 h8 h9 h1 h2 h3 h4 h5 hg
end Go.Proofs.YtjjcilinghgphaaGreat

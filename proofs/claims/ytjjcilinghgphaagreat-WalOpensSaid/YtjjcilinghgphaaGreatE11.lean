/-
 The disk's List and Read.
-/
import Derived.Test.YtjjcilinghgphaaGreatE10
namespace Go.Proofs.YtjjcilinghgphaaGreat
open Go.RowKit Go.Maps Go.Sort
set_option maxRecDepth 100000
attribute [local go_sem] bs_size bs_toList

theorem names_sorted {l : List Fl} (h : Srt l) : (l.map Fl.nm).mergeSort (fun x y => decide (x ≤ y)) = l.map Fl.nm := by
 refine List.mergeSort_of_pairwise (List.pairwise_map.2 (h.imp fun {a b} hab => ?_))
 rw [bB_lt, decide_eq_true_eq] at hab
 simpa using List.le_of_lt hab
/-- What List tells: the names, in order. -/
def ListPost (w : World) (l : List (List UInt8)) (e : Ending) (w' : World) : Prop := ∃ v, e = .returned v ∧ w'.ownsRow w.heap.size 9 1 v l.length (l.map encStr) ∧ Below w.heap.size w w'
set_option maxHeartbeats 1000000 in
theorem list_any (d : Nat) (S : Nat → Prop) (B : Int) (s : DS) (w : World) (h : DkS B w d S s) : Calls Tryz.prog 20 #[.pointer (some ⟨d, 0, none⟩)] w (ListPost w (s.fs.map Fl.nm)) := by
 obtain ⟨m, L, hD, hL, hC, hS, hok⟩ := h
 have c0 := cell_of_row w d 0 _ _ _ hD.hd
 have hlen := len_of hL
 have hl64 := hok.len
 have hsz := mapOf_size L
 have hkeys : strKeys (mapOf L) = s.fs.map Fl.nm := by rw [mapOf_keys, ← hL, List.map_map]; rfl
 have hsrt := names_sorted hok.srt
 refine (callsIn_wide (n := 6)).1 ?_
 have hfK : Fence.wide.fn 60 := trivial
 have hfS : Fence.wide.fn 59 := trivial
 have HK := Lib.hid (fun W => Tryz.maps_Keys_60 (some m) W)
 have HS := Lib.hid (Tryz.slices_Sorted_keys_59_60 m _ (mapOf L) ptrE w hD.hm (by rw [hsz]; unfold maxLen; omega) (by rw [hsz]; omega))
 have hfin : Hid (∀ (v : Value) (ss : List (List UInt8)) (w' : World), ss.Perm (strKeys (mapOf L)) → w'.ownsRow (w.alloc (.cells #[.map (some m)] 64)).heap.size 9 1 v ss.length ((ss.mergeSort (fun x y => decide (x ≤ y))).map encStr) → Below (w.alloc (.cells #[.map (some m)] 64)).heap.size (w.alloc (.cells #[.map (some m)] 64)) w' → ListPost w (s.fs.map Fl.nm) (.returned v) w') := by
  intro v ss w' hp hrow hb
  rw [hkeys] at hp
  rw [mergeSort_of_perm hp, hsrt, hp.length_eq] at hrow
  exact ⟨v, rfl, ownsRow_mono hrow (by simp), ((Below.refl _ w).alloc (Nat.le_refl _) _).trans (hb.mono (by simp))⟩
 clear hD hL hC hS hok hlen hl64 hsz hkeys hsrt
 refine callsIn_of_wp Tryz.func20 rfl trivial ?_ rfl
 simp only [Tryz.ntmps20, List.size_toArray, List.length_cons, List.length_nil, Nat.reduceAdd, Nat.reduceSub, Array.replicate_succ, Array.replicate_zero, List.push_toArray, List.append_toArray, List.nil_append, List.cons_append]
 gi_wp2_with (first
  | (gi_at_call 60; refine (HK.out _).mono ?_; rintro e w' ⟨rfl, rfl⟩)
  | (gi_at_call 59; refine (HS.out).mono ?_; rintro e w' ⟨v, ss, rfl, hS, hrow, hnil, hb⟩; have HR := Lib.hid (hfin.out v ss w' hS hrow hb); clear hS hrow hnil hb))
 go_ret
 exact HR.out

/-- What Read tells. -/
def ReadPost (w : World) (s : DS) (n : List UInt8) (e : Ending) (w' : World) : Prop := ∃ v, e = .returned (.tuple #[v, .int .i64 (hasE s n)]) ∧ Own8 w' w.heap.size 5 v (((getF n s.fs).map Fl.dt).getD []) ∧ Below w.heap.size w w'
theorem made0 (w : World) : (w.alloc (.cells #[] 5)).ownsRow w.heap.size 5 1 (.slice (some ⟨w.heap.size, 0, none⟩) 0 0) 0 [] :=
 World.ownsRow_made w #[] 0 (Nat.le_refl _) (by decide) (by simp)
set_option maxHeartbeats 1000000 in
theorem read_any (d : Nat) (S : Nat → Prop) (B : Int) (s : DS) (n : List UInt8) (hn : n.length ≤ 9223372036854775807) (w : World) (h : DkS B w d S s) : Calls Tryz.prog 81 #[.pointer (some ⟨d, 0, none⟩), .string (bs n)] w (ReadPost w s n) := by
 obtain ⟨m, L, hD, hL, hC, hS, hok⟩ := h
 have hd := hD.hd
 have c0 := cell_of_row w d 0 _ _ _ hd
 have hlk := look_run hD.hm n hn
 have hgF : getF n s.fs = (getC n L).map Cel.f := by rw [← hL, getC_f]
 cases hg : getC n L with
 | none =>
  have hr : Hid (ReadPost w s n (.returned (.tuple #[.slice none 0 0, .int .i64 8])) w) := by
   rw [hg] at hgF
   exact ⟨_, by unfold hasE; rw [hgF]; rfl, by rw [hgF]; exact Own8.nil _ _ _, Below.refl _ _⟩
  rw [hg] at hlk
  simp only [Option.map_none] at hlk
  clear hD hL hC hS hok hd hgF hg
  go_enter Tryz.func81, Tryz.ntmps81
  go_wp2
  go_ret2
  exact hr.out
 | some c =>
  obtain ⟨hcL, hcn⟩ := getC_some hg
  obtain ⟨hcb, hco⟩ := hD.hc c hcL
  obtain ⟨a, cap, hv, hrd⟩ := hco.rd
  rw [hv] at hcb
  have hle : c.dt.length ≤ 4194304 := Nat.le_trans (dt_le_tot (f := c.f) (by rw [← hL]; exact List.mem_map_of_mem hcL)) hok.tot
  have hfin : Hid (∀ v w', Own8 w' w.heap.size 5 v c.dt → Below w.heap.size w w' → ReadPost w s n (.returned (.tuple #[v, .int .i64 0])) w') := fun v w' h1 h2 => by
   rw [hg] at hgF
   exact ⟨_, by unfold hasE; rw [hgF]; rfl, by rw [hgF]; exact h1, h2⟩
  rw [hg] at hlk
  simp only [Option.map_some] at hlk
  have g0 : (w.alloc (.cells #[] 5)).cell? ⟨c.b, 0, none⟩ = some (.slice a c.dt.length cap) := cell_alloc_keep (cell_of_row w c.b 0 _ _ _ hcb)
  have HR := Lib.hid hrd
  clear hD hL hC hS hok hd hgF hg hcb hco hv hrd
  go_enter Tryz.func81, Tryz.ntmps81
  go_wp2_with (at_builtin; refine wpList_app S5 rfl _ _ rfl w.heap.size rfl (made0 w) rfl (HR.out.below ((Below.refl _ _).alloc (Nat.le_refl _) _)).2 (B8_one _) (by omega) (by unfold maxLen; omega) (by simp) ?_; intro v' w' ho hb hgr; have HO := Lib.hid ho; have HB := Lib.hid hb; clear ho hb hgr)
  go_ret2
  exact hfin.out _ _ (Own8.mk HO.out (by simp) (by simp)) (((Below.refl _ w).alloc (Nat.le_refl _) _).trans HB.out)
end Go.Proofs.YtjjcilinghgphaaGreat

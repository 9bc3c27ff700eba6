/-
 drop over the whole disk; the deeds of Remove and Rename. Written by a program (e6dgen.py).
-/
import Derived.Test.YtjjcilinghgphaaGreatE5
namespace Go.Proofs.YtjjcilinghgphaaGreat
open Go.RowKit Go.Maps
set_option maxRecDepth 100000
attribute [local go_sem] bs_size bs_toList
theorem delC_none {L : List Cel} {n : List UInt8} (h : getC n L = none) : delC n L = L := by
 unfold delC
 rw [List.filter_eq_self]
 intro c hc
 have := getC_none h c hc
 simpa using this
theorem delC_twice (L : List Cel) (n : List UInt8) : delC n (delC n L) = delC n L := by
 unfold delC
 rw [List.filter_filter]
 congr 1
 funext f
 rw [Bool.and_self]
theorem OwnC.sl {w : World} {v : Value} {l : List UInt8} (h : OwnC w v l) : ∃ a cap, v = .slice a l.length cap ∧ AtHead a ∧ l.length ≤ cap ∧ cap ≤ 9223372036854775807 := by
 rcases h with ⟨rfl, rfl⟩ | ⟨r, cap, cur, rfl, _, hnc, hcm, _⟩
 · exact ⟨none, 0, rfl, .inl rfl, Nat.le_refl _, by omega⟩
 · exact ⟨_, _, rfl, .inr ⟨r, rfl⟩, hnc, hcm⟩
theorem dt_le_tot {L : List Fl} {f : Fl} (h : f ∈ L) : f.dt.length ≤ tot L := by
 induction L with
 | nil => cases h
 | cons y r ih =>
  rw [tot_cons]
  rcases List.mem_cons.1 h with rfl | h
  · omega
  · have := ih h; omega
def Drop2Post (w : World) (d m : Nat) (L' : List Cel) (wr ar : Int) (dn : Bool) (e : Ending) (w' : World) : Prop :=
 e = .returned (.tuple #[]) ∧ Fr (fun k => k = d ∨ k = m) w w' ∧ w'.heap[d]? = some (.cells #[.map (some m), .int .i64 (tot (L'.map Cel.f) : Nat), .int .i64 wr, .int .i64 ar, .bool dn] 66 (0, 0)) ∧ w'.ownsMap Tryz.prog 9 ptrE m L'.length (mapOf L')
theorem drop2_any (d m : Nat) (L : List Cel) (n : List UInt8) (hn : n.length ≤ 9223372036854775807) (wr ar : Int) (dn : Bool) (w : World) (h : Dk w d m L wr ar dn) (hs : Srt (L.map Cel.f)) (ht : tot (L.map Cel.f) ≤ 4194304) :
 Calls Tryz.prog 96 #[.pointer (some ⟨d, 0, none⟩), .string (bs n)] w (Drop2Post w d m (delC n L) wr ar dn) := by
 cases hg : getC n L with
 | none =>
  refine (dropE_any d m _ L n hn hg w (cell_of_row w d 0 _ _ _ h.hd) h.hm).mono ?_
  rintro e w' ⟨rfl, rfl⟩
  rw [delC_none hg]
  exact ⟨rfl, Fr.refl _ _, h.hd, h.hm⟩
 | some c =>
  obtain ⟨hcL, hcn⟩ := getC_some hg
  obtain ⟨hcb, hco⟩ := h.hc c hcL
  obtain ⟨a, cap, hv, _⟩ := hco.sl
  rw [hv] at hcb
  have hle : c.dt.length ≤ tot (L.map Cel.f) := dt_le_tot (f := c.f) (List.mem_map_of_mem hcL)
  have htd : tot (L.map Cel.f) = c.dt.length + tot ((delC n L).map Cel.f) := by
   rw [delC_f]; exact tot_del hs (f := c.f) (by rw [getC_f, hg]; rfl)
  refine (drop_any d m _ L n hn c hg a c.dt.length cap c.sf (tot (L.map Cel.f) : Nat) wr ar dn (by omega) (by omega) w h.hd h.hm hcb h.apart.1).mono ?_
  rintro e w' ⟨rfl, h1, h2, k, h3⟩
  rw [show ((tot (L.map Cel.f) : Nat) : Int) - (c.dt.length : Int) = ((tot ((delC n L).map Cel.f) : Nat) : Int) by omega] at h2
  rw [mapOf_del] at h3
  have h4 := ownsMap_tight h3
  rw [mapOf_size] at h4
  exact ⟨rfl, h1, h2, h4⟩
theorem remove1_any (p q d m : Nat) (L : List Cel) (n : List UInt8) (hn : n.length ≤ 9223372036854775807) (wr ar : Int) (dn : Bool) (w : World) (k2 : w.cell? ⟨p, 0, none⟩ = some (.pointer (some ⟨d, 0, none⟩))) (k3 : w.cell? ⟨q, 0, none⟩ = some (.string (bs n)))
 (h : Dk w d m L wr ar dn) (hs : Srt (L.map Cel.f)) (ht : tot (L.map Cel.f) ≤ 4194304) :
 Calls Tryz.prog 95 #[.pointer (some ⟨p, 0, none⟩), .pointer (some ⟨q, 0, none⟩)] w (Drop2Post w d m (delC n L) wr ar dn) := by
 have HC := Lib.hid (drop2_any d m L n hn wr ar dn w h hs ht)
 clear h hs ht
 go_enter Tryz.func95, Tryz.ntmps95
 go_wp2_with (go_at_call 96; ((with_reducible refine (HC.out).mono ?_); rintro e w' ⟨rfl, hr⟩; have HR := Lib.hid hr; clear hr))
 go_end0
 exact ⟨rfl, HR.out⟩

/-- The files behind a change of a name. -/
def renC (a b : List UInt8) (c : Cel) (L : List Cel) : List Cel := delC a (insC ⟨b, c.dt, c.sf, c.b, c.v⟩ (delC b L))
end Go.Proofs.YtjjcilinghgphaaGreat

/-
  The document's tables of codes; the keys that it says a program names (raceref9.named, takes, add, Reads, Names).
  A key more, in its place, once, by the document (raceref9.add).
  The keys that a program reads and writes, by the document (raceref9.Reads, Names).
-/
import Derived.Test.YtalpbphfmelhhaaGreatDoorHB
/-! ### The document's tables of codes; the keys that it says a program names (raceref9.named, takes, add, Reads, Names). -/
namespace Go.Proofs.YtalpbphfmelhhaaGreatDoor
open Go.RowKit Go.Maps Go.Sort
set_option maxRecDepth 100000
attribute [local go_sem] bs_size bs_get bs_toList frombits tobits run_store_float
theorem bl_bB : ∀ a b : List UInt8, Op.bytesLess a b = bB a b
  | [], [] => rfl
  | _ :: _, [] => rfl
  | [], _ :: _ => rfl
  | a :: x, b :: y => by
    have ih := bl_bB x y
    unfold bB at ih ⊢
    rw [Op.bytesLess, bytesBefore, ih]
theorem bl_gt {a b : List UInt8} : Op.bytesLess a b = bB a b := bl_bB a b
def codes (c : Int) : Prop := c = 1 ∨ c = 2 ∨ c = 3 ∨ c = 4 ∨ c = 13 ∨ c = 14 ∨ c = 15
theorem insK_length (k : List UInt8) : ∀ l : List (List UInt8), (insK k l).length ≤ l.length + 1
  | [] => by simp [insK]
  | y :: r => by
    unfold insK
    split
    · simp
    · split
      · simp
      · have := insK_length k r
        simp only [List.length_cons]; omega
theorem encStr_bs (l : List UInt8) : encStr l = .string (bs l) := rfl
theorem SStrU : STy Tryz.prog 26 9 (.string ⟨#[]⟩) 1 16 := ⟨Tryz.underlying26, info_parts (by kernel_rfl), rfl, by decide⟩
/-- A slice of strings that reads. -/
def RdK (w : World) (a : Option Addr) (n cap : Nat) (ks : List (List UInt8)) : Prop := n = ks.length ∧ Rd w a n cap 1 (ks.map encStr)
theorem RdK.below {w w' : World} {a : Option Addr} {n cap : Nat} {ks : List (List UInt8)} (h : RdK w a n cap ks) (hb : Below w.heap.size w w') : RdK w' a n cap ks := ⟨h.1, h.2.below hb⟩
theorem RdK.at {w : World} {a : Option Addr} {n cap : Nat} {ks : List (List UInt8)} (h : RdK w a n cap ks) {i : Nat} {k : List UInt8} (hi : ks[i]? = some k) : ∃ b off, a = some ⟨b, off, none⟩ ∧ w.cell? ⟨b, off + i, none⟩ = some (.string (bs k)) := by
  obtain ⟨rfl, hr⟩ := h
  have hlt := (List.getElem?_eq_some_iff.1 hi).1
  obtain ⟨b, off, ha, _, hc⟩ := hr.at (by omega)
  refine ⟨b, off, ha, ?_⟩
  have := hc i _ (by rw [List.getElem?_map, hi]; rfl)
  rwa [encStr_bs] at this
abbrev OwnK (w : World) (base : Nat) (v : Value) (ks : List (List UInt8)) : Prop := w.ownsRow base 9 1 v ks.length (ks.map encStr)
theorem OwnK.rd {w : World} {base : Nat} {v : Value} {ks : List (List UInt8)} (h : OwnK w base v ks) : ∃ a cap, v = .slice a ks.length cap ∧ RdK w a ks.length cap ks := by
  obtain ⟨a, cap, hv, hr⟩ := Rd.of_own h
  exact ⟨a, cap, hv, rfl, hr⟩
theorem OwnK.nil (w : World) (base : Nat) : OwnK w base (.slice none 0 0) [] := World.ownsRow_nil _ _ _ _
end Go.Proofs.YtalpbphfmelhhaaGreatDoor

/-! ### A key more, in its place, once, by the document (raceref9.add). -/
namespace Go.Proofs.YtalpbphfmelhhaaGreatDoor
open Go.RowKit Go.Maps Go.Sort
set_option maxRecDepth 100000
attribute [local go_sem] bs_size bs_get bs_toList frombits tobits run_store_float
end Go.Proofs.YtalpbphfmelhhaaGreatDoor

/-! ### The keys that a program reads and writes, by the document (raceref9.Reads, Names). -/
namespace Go.Proofs.YtalpbphfmelhhaaGreatDoor
open Go.RowKit Go.Maps Go.Sort
set_option maxRecDepth 100000
attribute [local go_sem] bs_size bs_get bs_toList frombits tobits run_store_float
theorem namedP_length (a b : Int) (l : List OpP) : (namedP a b l).length ≤ l.length := by
  unfold namedP
  have h : ∀ (l : List OpP) (k : List (List UInt8)), (l.foldl (fun l o => if (o.c = a ∨ o.c = b) ∧ keyB o.key = true then insK o.key l else l) k).length ≤ k.length + l.length := by
    intro l
    induction l with
    | nil => intro k; simp
    | cons x r ih =>
      intro k
      rw [List.foldl_cons, List.length_cons]
      have h1 := ih (if (x.c = a ∨ x.c = b) ∧ keyB x.key = true then insK x.key k else k)
      have h2 : (if (x.c = a ∨ x.c = b) ∧ keyB x.key = true then insK x.key k else k).length ≤ k.length + 1 := by
        split
        · exact insK_length _ _
        · omega
      omega
  have := h l []
  simpa using this
end Go.Proofs.YtalpbphfmelhhaaGreatDoor

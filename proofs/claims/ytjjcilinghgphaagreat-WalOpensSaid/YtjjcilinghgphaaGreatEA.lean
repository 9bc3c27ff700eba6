/-
 The disk of chapter 6 in memory: its block, its map of files, each file's block and bytes. (Cel: a file with the places where it lies.)
 The disk of chapter 6 in memory: what becomes of it when a block is written. The walk of 'last'.
-/
import Derived.Test.YtjjcilinghgphaaGreatE1
import Derived.Test.YtjjcilinghgphaaGreatProg
import Derived.Maps.Ext
import Derived.OneCell
import Derived.Laws.Rows
import Derived.StillTailTactics
/-! ### The disk of chapter 6 in memory: its block, its map of files, each file's block and bytes. (Cel: a file with the places where it lies.) -/
namespace Go.Proofs.YtjjcilinghgphaaGreat
open Go.RowKit Go.Maps

structure Cel where
 nm : List UInt8
 dt : List UInt8
 sf : Nat
 b : Nat
 v : Value
def Cel.f (c : Cel) : Fl := ⟨c.nm, c.dt, c.sf⟩
def insC (f : Cel) : List Cel → List Cel
 | [] => [f]
 | y :: r => if bB f.nm y.nm then f :: y :: r else y :: insC f r
def delC (n : List UInt8) (l : List Cel) : List Cel := l.filter fun f => !(f.nm == n)
def getC (n : List UInt8) (l : List Cel) : Option Cel := l.find? fun f => f.nm == n
def updC (n : List UInt8) (g : Cel → Cel) (l : List Cel) : List Cel := l.map fun f => if f.nm == n then g f else f
theorem insC_f (c : Cel) : ∀ l : List Cel, (insC c l).map Cel.f = insF c.f (l.map Cel.f)
 | [] => rfl
 | y :: r => by
  unfold insC
  rw [List.map_cons]
  unfold insF
  show _ = if bB c.nm y.nm then _ else _
  split
  · rfl
  · rw [List.map_cons, insC_f c r]
theorem delC_f (n : List UInt8) (l : List Cel) : (delC n l).map Cel.f = delF n (l.map Cel.f) := by
 unfold delC delF
 rw [List.filter_map]; rfl
theorem getC_f (n : List UInt8) (l : List Cel) : getF n (l.map Cel.f) = (getC n l).map Cel.f := by
 unfold getC getF
 rw [List.find?_map]; rfl
theorem updC_f (n : List UInt8) (g : Cel → Cel) (h : Fl → Fl) (hg : ∀ c : Cel, c.nm = n → (g c).f = h c.f) (l : List Cel) : (updC n g l).map Cel.f = updF n h (l.map Cel.f) := by
 unfold updC updF
 rw [List.map_map, List.map_map]
 refine List.map_congr_left fun c _ => ?_
 show (if c.nm == n then g c else c).f = if c.nm == n then h c.f else c.f
 split
 · exact hg c (by simpa using ‹(c.nm == n) = true›)
 · rfl
theorem getC_some {l : List Cel} {n : List UInt8} {c : Cel} (h : getC n l = some c) : c ∈ l ∧ c.nm = n := ⟨List.mem_of_find?_eq_some h, by simpa using List.find?_some h⟩
theorem getC_none {l : List Cel} {n : List UInt8} (h : getC n l = none) : ∀ c ∈ l, c.nm ≠ n := fun c hc => by simpa using List.find?_eq_none.1 h c hc
theorem mem_insC {f g : Cel} : ∀ {l : List Cel}, g ∈ insC f l ↔ g = f ∨ g ∈ l
 | [] => by simp [insC]
 | y :: r => by
  unfold insC
  split
  · simp
  · simp only [List.mem_cons, mem_insC (l := r)]
    constructor
    · rintro (h | h | h) <;> simp [h]
    · rintro (h | h | h) <;> simp [h]
theorem mem_delC {l : List Cel} {n : List UInt8} {c : Cel} : c ∈ delC n l ↔ c ∈ l ∧ c.nm ≠ n := by unfold delC; rw [List.mem_filter]; simp
theorem mem_updC {l : List Cel} {n : List UInt8} {g : Cel → Cel} {c : Cel} (h : c ∈ updC n g l) : ∃ y ∈ l, (y.nm ≠ n ∧ c = y) ∨ (y.nm = n ∧ c = g y) := by
 obtain ⟨y, hy, rfl⟩ := List.mem_map.1 h
 refine ⟨y, hy, ?_⟩
 by_cases e : y.nm == n
 · rw [if_pos e]; exact .inr ⟨by simpa using e, rfl⟩
 · rw [if_neg e]; exact .inl ⟨by simpa using e, rfl⟩
theorem pairwise_insC {R : Cel → Cel → Prop} (hs : ∀ a b, R a b → R b a) {c : Cel} : ∀ {l : List Cel}, l.Pairwise R → (∀ y ∈ l, R c y) → (insC c l).Pairwise R
 | [], _, _ => by simp [insC]
 | y :: r, h, hc => by
  obtain ⟨h1, h2⟩ := List.pairwise_cons.1 h
  unfold insC
  split
  · exact List.pairwise_cons.2 ⟨hc, h⟩
  · refine List.pairwise_cons.2 ⟨fun q hq => ?_, pairwise_insC hs h2 fun q hq => hc q (by simp [hq])⟩
    rcases mem_insC.1 hq with rfl | hq
    · exact hs _ _ (hc y (by simp))
    · exact h1 q hq

/-! ### the map -/
def fileLit (b : Nat) : DataW Unit := .lit (.int .i64 (b : Int))
def noFile : DataW Unit := .lit (.bool false)
def ptrE : Value → Option (DataW Unit × List MemPlace)
 | .pointer (some ⟨b, 0, none⟩) => some (fileLit b, [])
 | .pointer none => some (noFile, [])
 | _ => none
theorem ptrE_inv {v : Value} {b : Nat} {ps : List MemPlace} (h : ptrE v = some (fileLit b, ps)) : v = .pointer (some ⟨b, 0, none⟩) := by
 unfold ptrE at h
 split at h
 · simp [fileLit] at h; rw [Int.ofNat_inj.1 h.1]
 · simp [fileLit, noFile] at h
 · cases h
theorem ptrE_no {v : Value} {ps : List MemPlace} (h : ptrE v = some (noFile, ps)) : v = .pointer none := by
 unfold ptrE at h
 split at h
 · simp [fileLit, noFile] at h
 · rfl
 · cases h
def entC (c : Cel) : Lit × DataW Unit := (.string c.nm, fileLit c.b)
def mapOf (L : List Cel) : DataW Unit := .map (L.map entC)
theorem mapOf_find (L : List Cel) (n : List UInt8) : (L.map entC).find? (fun p => p.1.sameKey (.string n)) = (getC n L).map entC := by
 unfold getC
 rw [List.find?_map]; rfl
theorem mapOf_at (L : List Cel) (n : List UInt8) : (mapOf L).atKey (.string n) noFile = match getC n L with | some c => fileLit c.b | none => noFile := by
 unfold mapOf DataW.atKey
 simp only [mapOf_find]
 cases getC n L <;> rfl
theorem mapOf_has (L : List Cel) (n : List UInt8) : Maps.has (mapOf L) (.string n) = (getC n L).isSome := by
 unfold mapOf getC
 rw [Maps.has_eq, List.any_map, List.isSome_find?]
 rfl
theorem mapOf_size (L : List Cel) : Maps.size (mapOf L) = L.length := by simp [mapOf, Maps.size]
theorem mapOf_keys (L : List Cel) : strKeys (mapOf L) = L.map Cel.nm := by
 show ((L.map entC).map fun p => strOf p.1) = _
 rw [List.map_map]; rfl
theorem mapOf_ins (c : Cel) : ∀ L : List Cel, DataW.insert (entC c) (L.map entC) = (insC c L).map entC
 | [] => rfl
 | y :: r => by
  rw [List.map_cons]
  unfold DataW.insert insC
  show (if bB c.nm y.nm then _ else _) = _
  split
  · rfl
  · rw [mapOf_ins c r]; rfl
theorem mapOf_filter (n : List UInt8) (L : List Cel) : (L.map entC).filter (fun p => !p.1.sameKey (.string n)) = (delC n L).map entC := by
 unfold delC
 rw [List.filter_map]; rfl
theorem mapOf_del (L : List Cel) (n : List UInt8) : (mapOf L).del (.string n) = mapOf (delC n L) := by
 unfold mapOf
 rw [DataW.del_eq]
 exact congrArg _ (mapOf_filter n L)
theorem mapOf_put (L : List Cel) (c : Cel) : (mapOf L).put (.string c.nm) (fileLit c.b) = mapOf (insC c (delC c.nm L)) := by
 show DataW.map (DataW.insert (entC c) ((L.map entC).filter fun p => !p.1.sameKey (.string c.nm))) = _
 rw [mapOf_filter, mapOf_ins]; rfl
theorem mapOf_upd (L : List Cel) (n : List UInt8) (g : Cel → Cel) (hg : ∀ c, (g c).nm = c.nm ∧ (g c).b = c.b) : mapOf (updC n g L) = mapOf L := by
 unfold mapOf updC
 rw [List.map_map]
 congr 1
 refine List.map_congr_left fun c _ => ?_
 show entC (if c.nm == n then g c else c) = entC c
 split
 · unfold entC; rw [(hg c).1, (hg c).2]
 · rfl

theorem ownsMap_tight {P : Program} {k : TypeId} {R : Value → Option (DataW Unit × List MemPlace)} {w : World} {b n : Nat} {D : DataW Unit} (h : w.ownsMap P k R b n D) : w.ownsMap P k R b (Maps.size D) D := by
 obtain ⟨es, clock, hb, F, hs, rfl⟩ := h
 exact ⟨es, clock, hb, F, by simp [Maps.size, length_sorted], rfl⟩
theorem ownsMap_block {P : Program} {k : TypeId} {R : Value → Option (DataW Unit × List MemPlace)} {w w' : World} {b n : Nat} {D : DataW Unit} (h : w.ownsMap P k R b n D) (hb : w'.heap[b]? = w.heap[b]?) : w'.ownsMap P k R b n D := by
 obtain ⟨es, clock, h1, r⟩ := h
 exact ⟨es, clock, hb.trans h1, r⟩
theorem ownsMap_isMap {P : Program} {k : TypeId} {R : Value → Option (DataW Unit × List MemPlace)} {w : World} {b n : Nat} {D : DataW Unit} (h : w.ownsMap P k R b n D) : ∃ es clock, w.heap[b]? = some (.map es clock) := by
 obtain ⟨es, clock, h1, _⟩ := h
 exact ⟨es, clock, h1⟩
theorem strKeyed : Keyed Tryz.prog 9 := string_keyed Tryz.underlying9
theorem keyS (n : List UInt8) (hn : n.length ≤ maxLen) : keyOf Tryz.prog 9 (.string (bs n)) = some (.string n) := by
 have := Go.WideMaps.keyOf_string_mk Tryz.underlying9 (s := bs n) (by rw [bs_size]; exact hn)
 simpa [bs] using this
theorem zeroFile (w : World) : (zeroValue 63).run Tryz.prog w = .ok (.pointer none) w := by kernel_rfl
/-- A file's place, asked of the map. -/
theorem look_run {w : World} {m n : Nat} {L : List Cel} (h : w.ownsMap Tryz.prog 9 ptrE m n (mapOf L)) (nm : List UInt8) (hn : nm.length ≤ maxLen) :
 (Instr.lookup 64 (.map (some m)) (.string (bs nm)) false).run Tryz.prog w = .ok (.pointer ((getC nm L).map fun c => ⟨c.b, 0, none⟩)) w := by
 obtain ⟨v, ps, hrun, hv⟩ := h.lookup strKeyed Tryz.underlying64 (zeroFile w) (zd := noFile) (zp := []) rfl (keyS nm hn)
 rw [mapOf_at] at hv
 rw [hrun]
 cases hg : getC nm L with
 | none => rw [hg] at hv; rw [ptrE_no hv]; rfl
 | some c => rw [hg] at hv; rw [ptrE_inv hv]; rfl

/-! ### bytes that are a file's own -/
/-- The slice v holds l, from the head of a block of bytes. -/
def OwnC (w : World) (v : Value) (l : List UInt8) : Prop :=
 (v = .slice none 0 0 ∧ l = []) ∨
 ∃ r cap cur, v = .slice (some ⟨r, 0, none⟩) l.length cap ∧ w.heap[r]? = some (.cells cur 5 (0, 0)) ∧ l.length ≤ cap ∧ cap ≤ maxLen ∧ cap ≤ cur.size ∧ cur.toList.take l.length = B8 l
theorem OwnC.of_own {w : World} {base : Nat} {v : Value} {l : List UInt8} (h : Own8 w base 5 v l) : OwnC w v l := by
 obtain ⟨h1, h2⟩ := h
 rcases h2 with ⟨rfl, hl⟩ | ⟨g, cap, cur, rfl, hb, hg, hnc, hcm, hcs, ht⟩
 · exact .inl ⟨rfl, List.eq_nil_of_length_eq_zero hl⟩
 · exact .inr ⟨g, cap, cur, rfl, hg, hnc, hcm, by omega, by simpa using ht⟩
theorem OwnC.rd {w : World} {v : Value} {l : List UInt8} (h : OwnC w v l) : ∃ a cap, v = .slice a l.length cap ∧ Rd8 w a l.length cap l := by
 rcases h with ⟨rfl, rfl⟩ | ⟨r, cap, cur, rfl, hg, hnc, hcm, hcs, ht⟩
 · exact ⟨none, 0, rfl, rfl, Rd.nil _ _⟩
 · refine ⟨_, _, rfl, rfl, hnc, hcm, (fun h => by cases h), by rw [B8_length]; omega, fun j u hj => ⟨r, 0, rfl, ?_⟩⟩
   rw [Nat.zero_add, cell_of_row w r j cur 5 (0, 0) hg]
   rw [← ht, List.getElem?_take] at hj
   split at hj
   · simpa using hj
   · cases hj
theorem OwnC.block {w w' : World} {v : Value} {l : List UInt8} (h : OwnC w v l) (hb : ∀ k, v.ownBlock = some k → w'.heap[k]? = w.heap[k]?) : OwnC w' v l := by
 rcases h with h | ⟨r, cap, cur, rfl, hg, rest⟩
 · exact .inl h
 · exact .inr ⟨r, cap, cur, rfl, by rw [hb r rfl]; exact hg, rest⟩
theorem OwnC.at {w : World} {v : Value} {l : List UInt8} (h : OwnC w v l) (k : Nat) (hk : v.ownBlock = some k) : ∃ cur, w.heap[k]? = some (.cells cur 5 (0, 0)) := by
 rcases h with ⟨rfl, _⟩ | ⟨r, cap, cur, rfl, hg, rest⟩
 · simp [Value.ownBlock] at hk
 · simp [Value.ownBlock] at hk; subst hk; exact ⟨cur, hg⟩
/-- Its first k bytes, and no room behind them. -/
theorem OwnC.cut {w : World} {a : Option Addr} {n cap : Nat} {l : List UInt8} (h : OwnC w (.slice a n cap) l) (k : Nat) (hk : k ≤ l.length) : OwnC w (.slice a k k) (l.take k) := by
 rcases h with ⟨h1, rfl⟩ | ⟨r, cap, cur, hv, hg, hnc, hcm, hcs, ht⟩
 · simp at h1
   obtain ⟨rfl, rfl, rfl⟩ := h1
   have : k = 0 := by simpa using hk
   subst this
   exact .inl ⟨rfl, rfl⟩
 · simp at hv
   obtain ⟨rfl, rfl, rfl⟩ := hv
   have hl : (l.take k).length = k := by rw [List.length_take]; omega
   refine .inr ⟨r, k, cur, by rw [hl], hg, by omega, by omega, by omega, ?_⟩
   rw [hl, show cur.toList.take k = (cur.toList.take l.length).take k by rw [List.take_take, Nat.min_eq_left hk], ht]
   simp [B8]

/-! ### the disk -/
/-- A disk at block d, its map at block m, its files L. -/
structure Dk (w : World) (d m : Nat) (L : List Cel) (wr ar : Int) (dn : Bool) : Prop where
 hd : w.heap[d]? = some (.cells #[.map (some m), .int .i64 (tot (L.map Cel.f) : Nat), .int .i64 wr, .int .i64 ar, .bool dn] 66 (0, 0))
 hm : w.ownsMap Tryz.prog 9 ptrE m L.length (mapOf L)
 hc : ∀ c ∈ L, w.heap[c.b]? = some (.cells #[c.v, .int .i64 (c.sf : Nat)] 68 (0, 0)) ∧ OwnC w c.v c.dt
 ap : L.Pairwise fun x y => x.b ≠ y.b ∧ ∀ k, x.v.ownBlock = some k → y.v.ownBlock ≠ some k
/-- S holds all blocks of the disk. -/
def Cov (S : Nat → Prop) (d m : Nat) (L : List Cel) : Prop := S d ∧ S m ∧ ∀ c ∈ L, S c.b ∧ ∀ k, c.v.ownBlock = some k → S k
/-- A disk at block d, in the blocks S, in state s. -/
def DkS (B : Int) (w : World) (d : Nat) (S : Nat → Prop) (s : DS) : Prop :=
 ∃ m L, Dk w d m L s.wr s.ar s.dn ∧ L.map Cel.f = s.fs ∧ Cov S d m L ∧ (∀ k, S k → k < w.heap.size) ∧ DOk B s
/-- S and what is new. -/
def Sx (S : Nat → Prop) (w w' : World) (k : Nat) : Prop := S k ∨ (w.heap.size ≤ k ∧ k < w'.heap.size)

theorem Dk.keep {w w' : World} {d m : Nat} {L : List Cel} {wr ar : Int} {dn : Bool} (h : Dk w d m L wr ar dn) (hd : w'.heap[d]? = w.heap[d]?) (hm : w'.heap[m]? = w.heap[m]?) (hc : ∀ c ∈ L, w'.heap[c.b]? = w.heap[c.b]? ∧ ∀ k, c.v.ownBlock = some k → w'.heap[k]? = w.heap[k]?) : Dk w' d m L wr ar dn :=
 ⟨hd.trans h.hd, ownsMap_block h.hm hm, fun c hc' => ⟨(hc c hc').1.trans (h.hc c hc').1, (h.hc c hc').2.block (hc c hc').2⟩, h.ap⟩
theorem Cov.mono {S S' : Nat → Prop} {d m : Nat} {L : List Cel} (h : Cov S d m L) (hs : ∀ k, S k → S' k) : Cov S' d m L := ⟨hs _ h.1, hs _ h.2.1, fun c hc => ⟨hs _ (h.2.2 c hc).1, fun k hk => hs _ ((h.2.2 c hc).2 k hk)⟩⟩
theorem Dk.blocks {w : World} {d m : Nat} {L : List Cel} {wr ar : Int} {dn : Bool} (h : Dk w d m L wr ar dn) : d < w.heap.size ∧ m < w.heap.size ∧ ∀ c ∈ L, c.b < w.heap.size ∧ ∀ k, c.v.ownBlock = some k → k < w.heap.size := by
 refine ⟨(Array.getElem?_eq_some_iff.1 h.hd).1, h.hm.lt, fun c hc => ⟨(Array.getElem?_eq_some_iff.1 (h.hc c hc).1).1, fun k hk => ?_⟩⟩
 obtain ⟨cur, hg⟩ := (h.hc c hc).2.at k hk
 exact (Array.getElem?_eq_some_iff.1 hg).1
/-- What is done outside S leaves the disk as it is. -/
theorem DkS.keep {B : Int} {w w' : World} {d : Nat} {S S' : Nat → Prop} {s : DS} (h : DkS B w d S s) (hf : Fr S' w w') (hn : ∀ k, S k → ¬ S' k) : DkS B w' d S s := by
 obtain ⟨m, L, hD, hL, hC, hS, hok⟩ := h
 have key : ∀ k, S k → w'.heap[k]? = w.heap[k]? := fun k hk => hf.block k (hS k hk) (hn k hk)
 exact ⟨m, L, hD.keep (key d hC.1) (key m hC.2.1) (fun c hc => ⟨key _ (hC.2.2 c hc).1, fun k hk => key _ ((hC.2.2 c hc).2 k hk)⟩), hL, hC, fun k hk => Nat.lt_of_lt_of_le (hS k hk) hf.size, hok⟩
theorem DkS.below {B : Int} {w w' : World} {d : Nat} {S : Nat → Prop} {s : DS} (h : DkS B w d S s) (hb : Below w.heap.size w w') : DkS B w' d S s :=
 h.keep (Fr.of_below hb) (fun k hk => by obtain ⟨m, L, _, _, _, hS, _⟩ := h; have := hS k hk; omega)
theorem DkS.mono {B B' : Int} {w : World} {d : Nat} {S S' : Nat → Prop} {s : DS} (h : DkS B w d S s) (hb : B ≤ B') (hs : ∀ k, S k → S' k) (hl : ∀ k, S' k → k < w.heap.size) : DkS B' w d S' s := by
 obtain ⟨m, L, hD, hL, hC, hS, hok⟩ := h
 exact ⟨m, L, hD, hL, hC.mono hs, hl, hok.mono hb⟩
theorem DkS.ok {B : Int} {w : World} {d : Nat} {S : Nat → Prop} {s : DS} (h : DkS B w d S s) : DOk B s := by obtain ⟨_, _, _, _, _, _, h⟩ := h; exact h
theorem DkS.lt {B : Int} {w : World} {d : Nat} {S : Nat → Prop} {s : DS} (h : DkS B w d S s) : ∀ k, S k → k < w.heap.size := by obtain ⟨_, _, _, _, _, h, _⟩ := h; exact h
end Go.Proofs.YtjjcilinghgphaaGreat

/-! ### The disk of chapter 6 in memory: what becomes of it when a block is written. The walk of 'last'. -/
namespace Go.Proofs.YtjjcilinghgphaaGreat
open Go.RowKit Go.Maps
set_option maxRecDepth 100000

theorem row_set {w : World} {g i : Nat} {cs cs' : Array Value} {t : TypeId} {v : Value} (hg : w.heap[g]? = some (.cells cs t (0, 0))) (he : cs.setIfInBounds i v = cs') : (w.setCell ⟨g, i, none⟩ v).heap[g]? = some (.cells cs' t (0, 0)) := by
 rw [heap_setCell_same w g i cs t v hg, he]
/-- One file of a name. -/
theorem one_of {L : List Cel} (h : Srt (L.map Cel.f)) {c y : Cel} (hc : c ∈ L) (hy : y ∈ L) (e : c.nm = y.nm) : c = y := by
 have h1 : L.Pairwise fun a b => bB a.nm b.nm = true := List.pairwise_map.1 h
 clear h
 induction L with
 | nil => cases hc
 | cons z r ih =>
  obtain ⟨h2, h3⟩ := List.pairwise_cons.1 h1
  rcases List.mem_cons.1 hc with hc' | hc' <;> rcases List.mem_cons.1 hy with hy' | hy'
  · rw [hc', hy']
  · subst hc'; exact absurd e (bB_ne (h2 y hy'))
  · subst hy'; exact absurd e.symm (bB_ne (h2 c hc'))
  · exact ih hc' hy' h3
theorem ap_of {L : List Cel} (h : L.Pairwise fun x y => x.b ≠ y.b ∧ ∀ k, x.v.ownBlock = some k → y.v.ownBlock ≠ some k) {x y : Cel} (hx : x ∈ L) (hy : y ∈ L) (hne : x ≠ y) : x.b ≠ y.b ∧ ∀ k, x.v.ownBlock = some k → y.v.ownBlock ≠ some k := by
 induction L with
 | nil => cases hx
 | cons z r ih =>
  obtain ⟨h2, h3⟩ := List.pairwise_cons.1 h
  rcases List.mem_cons.1 hx with hx' | hx' <;> rcases List.mem_cons.1 hy with hy' | hy'
  · exact absurd (hx'.trans hy'.symm) hne
  · subst hx'; exact h2 y hy'
  · subst hy'
    have := h2 x hx'
    exact ⟨fun e => this.1 e.symm, fun k hk hk' => this.2 k hk' hk⟩
  · exact ih h3 hx' hy'

section
variable {w w' : World} {d m : Nat} {L : List Cel} {wr ar : Int} {dn : Bool}
/-- Blocks of different kinds are different. -/
theorem Dk.apart (h : Dk w d m L wr ar dn) : d ≠ m ∧ ∀ c ∈ L, c.b ≠ d ∧ c.b ≠ m ∧ (∀ k, c.v.ownBlock = some k → k ≠ d ∧ k ≠ m ∧ ∀ y ∈ L, k ≠ y.b) := by
 obtain ⟨es, ck, hmm⟩ := ownsMap_isMap h.hm
 have hd := h.hd
 refine ⟨fun e => (by rw [e, hmm] at hd; cases hd), fun c hc => ?_⟩
 obtain ⟨h1, h2⟩ := h.hc c hc
 refine ⟨fun e => (by rw [e, hd] at h1; simp at h1), fun e => (by rw [e, hmm] at h1; cases h1), fun k hk => ?_⟩
 obtain ⟨cur, hg⟩ := h2.at k hk
 refine ⟨fun e => (by rw [e, hd] at hg; simp at hg), fun e => (by rw [e, hmm] at hg; cases hg), fun y hy e => ?_⟩
 have h3 := (h.hc y hy).1
 rw [e, h3] at hg
 simp at hg
/-- The disk's own numbers are others. -/
theorem Dk.scal (h : Dk w d m L wr ar dn) {wr' ar' : Int} {dn' : Bool} (hf : Fr (fun k => k = d) w w') (hd : w'.heap[d]? = some (.cells #[.map (some m), .int .i64 (tot (L.map Cel.f) : Nat), .int .i64 wr', .int .i64 ar', .bool dn'] 66 (0, 0))) : Dk w' d m L wr' ar' dn' := by
 obtain ⟨b1, b2, b3⟩ := h.blocks
 obtain ⟨a1, a2⟩ := h.apart
 exact ⟨hd, ownsMap_block h.hm (hf.block m b2 (fun e => a1 e.symm)), fun c hc =>
  ⟨(hf.block c.b (b3 c hc).1 (a2 c hc).1).trans (h.hc c hc).1, (h.hc c hc).2.block fun k hk => hf.block k ((b3 c hc).2 k hk) ((a2 c hc).2.2 k hk).1⟩, h.ap⟩
/-- A file's block and bytes are others. -/
theorem Dk.file (h : Dk w d m L wr ar dn) (hsr : Srt (L.map Cel.f)) {n : List UInt8} {c : Cel} (hg : getC n L = some c) {dt' : List UInt8} {sf' : Nat} {v' : Value}
 (hf : Fr (fun k => k = d ∨ k = c.b ∨ c.v.ownBlock = some k) w w')
 (hd : w'.heap[d]? = some (.cells #[.map (some m), .int .i64 (tot (updF n (fun f => ⟨f.nm, dt', sf'⟩) (L.map Cel.f)) : Nat), .int .i64 wr, .int .i64 ar, .bool dn] 66 (0, 0)))
 (hb : w'.heap[c.b]? = some (.cells #[v', .int .i64 (sf' : Nat)] 68 (0, 0))) (ho : OwnC w' v' dt') (hv : ∀ k, v'.ownBlock = some k → c.v.ownBlock = some k ∨ w.heap.size ≤ k) :
 Dk w' d m (updC n (fun c => ⟨c.nm, dt', sf', c.b, v'⟩) L) wr ar dn := by
 obtain ⟨b1, b2, b3⟩ := h.blocks
 obtain ⟨a1, a2⟩ := h.apart
 obtain ⟨hcL, hcn⟩ := getC_some hg
 have hone : ∀ y ∈ L, y.nm = n → y = c := fun y hy e => one_of hsr hy hcL (e.trans hcn.symm)
 have huf : (updC n (fun c => ⟨c.nm, dt', sf', c.b, v'⟩) L).map Cel.f = updF n (fun f => ⟨f.nm, dt', sf'⟩) (L.map Cel.f) := updC_f n _ _ (fun _ _ => rfl) L
 refine ⟨by rw [huf]; exact hd, ?_, fun y hy => ?_, ?_⟩
 · rw [mapOf_upd L n (fun c => ⟨c.nm, dt', sf', c.b, v'⟩) (fun _ => ⟨rfl, rfl⟩), show (updC n (fun c => ⟨c.nm, dt', sf', c.b, v'⟩) L).length = L.length by simp [updC]]
   refine ownsMap_block h.hm (hf.block m b2 ?_)
   rintro (e | e | e)
   · exact a1 e.symm
   · exact (a2 c hcL).2.1 e.symm
   · exact ((a2 c hcL).2.2 m e).2.1 rfl
 · obtain ⟨z, hz, ⟨hzn, rfl⟩ | ⟨hzn, rfl⟩⟩ := mem_updC hy
   · have hzc : y ≠ c := fun e => hzn (by rw [e]; exact hcn)
     have hap := ap_of h.ap hz hcL hzc
     refine ⟨(hf.block y.b (b3 y hz).1 ?_).trans (h.hc y hz).1, (h.hc y hz).2.block fun k hk => hf.block k ((b3 y hz).2 k hk) ?_⟩
     · rintro (e | e | e)
       · exact (a2 y hz).1 e
       · exact hap.1 e
       · exact ((a2 c hcL).2.2 _ e).2.2 y hz rfl
     · rintro (e | e | e)
       · exact ((a2 y hz).2.2 k hk).1 e
       · exact ((a2 y hz).2.2 k hk).2.2 c hcL e
       · exact hap.2 k hk e
   · obtain rfl := hone z hz hzn
     exact ⟨hb, ho⟩
 · have hvn : ∀ y ∈ L, y.nm ≠ n → ∀ k, v'.ownBlock = some k → y.v.ownBlock ≠ some k := fun y hy hyn k hk hk' => by
    have hyc : y ≠ c := fun e => hyn (by rw [e]; exact hcn)
    rcases hv k hk with h1 | h1
    · exact (ap_of h.ap hy hcL hyc).2 k hk' h1
    · have := (b3 y hy).2 k hk'; omega
   have h1 : L.Pairwise fun a b => bB a.nm b.nm = true := List.pairwise_map.1 hsr
   refine List.pairwise_map.2 ((List.pairwise_and_iff.2 ⟨h.ap, h1⟩).imp_of_mem fun {x y} hx hy hxy => ?_)
   obtain ⟨hxy, hnn⟩ := hxy
   by_cases ex : x.nm == n <;> by_cases ey : y.nm == n
   · rw [beq_iff_eq] at ex ey
     exact absurd (ex.trans ey.symm) (bB_ne hnn)
   · rw [if_pos ex, if_neg ey]
     exact ⟨hxy.1, fun k hk => hvn y hy (by simpa using ey) k hk⟩
   · rw [if_neg ex, if_pos ey]
     exact ⟨hxy.1, fun k hk hk' => hvn x hx (by simpa using ex) k hk' hk⟩
   · rw [if_neg ex, if_neg ey]; exact hxy
/-- A new file. -/
theorem Dk.put (h : Dk w d m L wr ar dn) {c : Cel} (hg : getC c.nm L = none) {sz : Nat} (hsz : sz = tot (L.map Cel.f) + c.dt.length) {wr' ar' : Int} {dn' : Bool} (hf : Fr (fun k => k = d ∨ k = m) w w')
 (hd : w'.heap[d]? = some (.cells #[.map (some m), .int .i64 (sz : Nat), .int .i64 wr', .int .i64 ar', .bool dn'] 66 (0, 0)))
 (hm : ∃ n, w'.ownsMap Tryz.prog 9 ptrE m n (mapOf (insC c L)))
 (hb : w'.heap[c.b]? = some (.cells #[c.v, .int .i64 (c.sf : Nat)] 68 (0, 0))) (ho : OwnC w' c.v c.dt) (hbn : w.heap.size ≤ c.b) (hv : ∀ k, c.v.ownBlock = some k → w.heap.size ≤ k) :
 Dk w' d m (insC c L) wr' ar' dn' := by
 obtain ⟨b1, b2, b3⟩ := h.blocks
 obtain ⟨a1, a2⟩ := h.apart
 refine ⟨?_, ?_, fun y hy => ?_, pairwise_insC (fun a b hab => ⟨fun e => hab.1 e.symm, fun k hk hk' => hab.2 k hk' hk⟩) h.ap fun y hy => ⟨fun e => ?_, fun k hk hk' => ?_⟩⟩
 · rw [insC_f, tot_ins, show c.f.dt.length + tot (L.map Cel.f) = sz by rw [hsz, Nat.add_comm]; rfl]; exact hd
 · obtain ⟨n, hm⟩ := hm
   have := ownsMap_tight hm
   rw [mapOf_size] at this; exact this
 · rcases mem_insC.1 hy with rfl | hy
   · exact ⟨hb, ho⟩
   · refine ⟨(hf.block y.b (b3 y hy).1 ?_).trans (h.hc y hy).1, (h.hc y hy).2.block fun k hk => hf.block k ((b3 y hy).2 k hk) ?_⟩
     · rintro (e | e)
       · exact (a2 y hy).1 e
       · exact (a2 y hy).2.1 e
     · rintro (e | e)
       · exact ((a2 y hy).2.2 k hk).1 e
       · exact ((a2 y hy).2.2 k hk).2.1 e
 · have := (b3 y hy).1; omega
 · have := (b3 y hy).2 k hk'; have := hv k hk; omega
/-- A file less. -/
theorem Dk.del (h : Dk w d m L wr ar dn) (n : List UInt8) {sz : Nat} (hsz : sz = tot ((delC n L).map Cel.f)) (hf : Fr (fun k => k = d ∨ k = m) w w')
 (hd : w'.heap[d]? = some (.cells #[.map (some m), .int .i64 (sz : Nat), .int .i64 wr, .int .i64 ar, .bool dn] 66 (0, 0)))
 (hm : ∃ k, w'.ownsMap Tryz.prog 9 ptrE m k (mapOf (delC n L))) : Dk w' d m (delC n L) wr ar dn := by
 obtain ⟨b1, b2, b3⟩ := h.blocks
 obtain ⟨a1, a2⟩ := h.apart
 refine ⟨by rw [← hsz]; exact hd, ?_, fun y hy => ?_, h.ap.filter _⟩
 · obtain ⟨k, hm⟩ := hm
   have := ownsMap_tight hm
   rw [mapOf_size] at this; exact this
 · have hy := (mem_delC.1 hy).1
   refine ⟨(hf.block y.b (b3 y hy).1 ?_).trans (h.hc y hy).1, (h.hc y hy).2.block fun k hk => hf.block k ((b3 y hy).2 k hk) ?_⟩
   · rintro (e | e)
     · exact (a2 y hy).1 e
     · exact (a2 y hy).2.1 e
   · rintro (e | e)
     · exact ((a2 y hy).2.2 k hk).1 e
     · exact ((a2 y hy).2.2 k hk).2.1 e
/-- The disk's cells, for a walk. -/
theorem dcells {sz : Int} (hd : w.heap[d]? = some (.cells #[.map (some m), .int .i64 sz, .int .i64 wr, .int .i64 ar, .bool dn] 66 (0, 0))) :
 (w.cell? ⟨d, 0, none⟩ = some (.map (some m)) ∧ w.cell? ⟨d, 1, none⟩ = some (.int .i64 sz) ∧ w.cell? ⟨d, 2, none⟩ = some (.int .i64 wr) ∧ w.cell? ⟨d, 3, none⟩ = some (.int .i64 ar) ∧ w.cell? ⟨d, 4, none⟩ = some (.bool dn)) ∧
 (w.frozen? ⟨d, 1, none⟩ = false ∧ w.frozen? ⟨d, 2, none⟩ = false ∧ w.frozen? ⟨d, 3, none⟩ = false ∧ w.frozen? ⟨d, 4, none⟩ = false) :=
 ⟨⟨cell_of_row w d 0 _ _ _ hd, cell_of_row w d 1 _ _ _ hd, cell_of_row w d 2 _ _ _ hd, cell_of_row w d 3 _ _ _ hd, cell_of_row w d 4 _ _ _ hd⟩,
 ⟨frozen_of_row w d 1 _ _ hd, frozen_of_row w d 2 _ _ hd, frozen_of_row w d 3 _ _ hd, frozen_of_row w d 4 _ _ hd⟩⟩
end

/-- The block of the disk behind 'last'. -/
def LastPost (w : World) (d m : Nat) (sz wr ar : Int) (l : Bool) (wr' ar' : Int) (e : Ending) (w' : World) : Prop :=
 e = .returned (.bool l) ∧ Fr (fun k => k = d) w w' ∧ w'.heap[d]? = some (.cells #[.map (some m), .int .i64 sz, .int .i64 wr', .int .i64 ar', .bool l] 66 (0, 0))
set_option maxHeartbeats 1000000 in
theorem last_any (d m : Nat) (sz wr ar : Int) (w : World) (hd : w.heap[d]? = some (.cells #[.map (some m), .int .i64 sz, .int .i64 wr, .int .i64 ar, .bool false] 66 (0, 0)))
 (h0 : 0 ≤ ar) (h1 : ar ≤ 9223372036854775807) (h2 : 0 ≤ wr) (h3 : wr < 1000000000000) :
 Calls Tryz.prog 86 #[.pointer (some ⟨d, 0, none⟩)] w (LastPost w d m sz wr ar (decide (ar = 1)) (if ar = 1 then wr else wr + 1) (if 0 < ar then ar - 1 else ar)) := by
 have HD := Lib.hid hd
 obtain ⟨⟨c0, c1, c2, c3, c4⟩, f1, f2, f3, f4⟩ := dcells hd
 clear hd
 rcases (by omega : ar = 1 ∨ 1 < ar ∨ ar = 0) with rfl | ha | rfl
 · go_enter Tryz.func86, Tryz.ntmps86
   go_wp2
   go_ret
   exact ⟨rfl, (((Fr.refl (fun k => k = d) w).setCell (fun _ => rfl) _).setCell (fun _ => rfl) _), row_set (row_set HD.out rfl) rfl⟩
 · have e1 : (ar == 1) = false := by simp; omega
   have e2 : ¬ ar = 1 := by omega
   have e3 : decide (0 < ar) = true := by simp; omega
   have e4 : (ar - 1 == 0) = false := by simp; omega
   have e5 : 0 < ar := by omega
   go_enter Tryz.func86, Tryz.ntmps86
   go_wp2
   go_ret
   exact ⟨rfl, ((((Fr.refl (fun k => k = d) w).setCell (fun _ => rfl) _).setCell (fun _ => rfl) _).setCell (fun _ => rfl) _), row_set (row_set (row_set HD.out rfl) rfl) rfl⟩
 · go_enter Tryz.func86, Tryz.ntmps86
   go_wp2
   go_ret
   exact ⟨rfl, ((Fr.refl (fun k => k = d) w).setCell (fun _ => rfl) _), row_set HD.out rfl⟩
end Go.Proofs.YtjjcilinghgphaaGreat

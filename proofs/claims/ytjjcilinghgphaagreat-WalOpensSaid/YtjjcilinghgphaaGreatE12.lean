/-
 append at a step of a drawn region; lists of files in memory; the disk's Files. Written by a program (e12gen.py).
-/
import Derived.Test.YtjjcilinghgphaaGreatE11
namespace Go.Proofs.YtjjcilinghgphaaGreat
open Go.RowKit Go.Maps Go.Sort
set_option maxRecDepth 100000
attribute [local go_sem] bs_size bs_toList

theorem run_app {P : Program} {t e : TypeId} {z : Value} {size bytes : Nat} (S : STy P t e z size bytes) {w : World} (base : Nat) {v : Value} {n : Nat} {xs : List Value} (hown : w.ownsRow base e size v n xs)
 {ad : Option Addr} {m c : Nat} {news : List Value} (hr : Rd w ad m c size news) (h1 : ∀ u ∈ news, u.oneCell' = true)
 (hbytes : (n + m) * bytes ≤ 140737488355328) (h63 : n + m ≤ maxLen) (hbase : base ≤ w.heap.size) (ty : TypeId) :
 ∃ v' w', (Builtin.append_ #[t, t] ty #[v, .slice ad m c]).run P w = .ok v' w' ∧ w'.ownsRow base e size v' (n + m) (xs ++ news) ∧ w.grownBy w' v.ownBlock ∧ (v'.ownBlock = v.ownBlock ∨ v'.ownBlock = some w.heap.size) := by
 obtain ⟨i, hi0, hi1, hi2, hi3⟩ := S.info
 by_cases hm : m = 0
 · subst hm
   have hnil : news = [] := List.eq_nil_of_length_eq_zero (by simpa using hr.2.2.2.1)
   subst hnil
   cases ad with
   | none =>
    have hc : c = 0 := hr.2.2.1 rfl
    subst hc
    exact ⟨v, w, run_append_owned_none (P := P) (w := w) base t ty e i size S.ht hi0 v n xs hown, by simpa using hown, World.grownBy.refl _ _, .inl rfl⟩
   | some ad =>
    obtain ⟨v', w', h2, h3, h4, _, h5⟩ := run_append_own_at (P := P) w base t ty e i z size bytes S.ht hi0 hi1 hi2 hi3 S.zs S.pos v n xs hown ad 0 c [] (by simp) (by simp) (by simp) h63 hbytes hbase
    exact ⟨v', w', h2, h3, h4, h5⟩
 · obtain ⟨b, off, rfl, hb, hcell⟩ := hr.at (Nat.mul_pos (by omega) S.pos)
   obtain ⟨v', w', h2, h3, h4, _, h5⟩ := run_append_own_at (P := P) w base t ty e i z size bytes S.ht hi0 hi1 hi2 hi3 S.zs S.pos v n xs hown _ m c news hr.2.2.2.1
    (fun j u hj => by rw [Addr.add_none]; exact hcell j u hj) h1 h63 hbytes hbase
   exact ⟨v', w', h2, h3, h4, h5⟩
theorem step_app2 {P : Program} {t e : TypeId} {z : Value} {size bytes : Nat} (S : STy P t e z size bytes) {w : World} {ops : Array Oper} {o : Oper} {a : Act} {K : Act → World → Prop} {Q : Exit → Act → World → Prop} {E : Prop}
 (hgd : o.guard = none) (s x : Operand) (ho : o.op = .call { callee := .builtin .append, args := #[s, x], argTypes := #[t, t] })
 (base : Nat) {v : Value} {n : Nat} {xs : List Value} (hs : a.eval s = v) (hown : w.ownsRow base e size v n xs)
 {ad : Option Addr} {m c : Nat} {news : List Value} (hx : a.eval x = .slice ad m c) (hr : Rd w ad m c size news) (h1 : ∀ u ∈ news, u.oneCell' = true)
 (hbytes : (n + m) * bytes ≤ 140737488355328) (h63 : n + m ≤ maxLen) (hbase : base ≤ w.heap.size)
 (hK : ∀ v' w', w'.ownsRow base e size v' (n + m) (xs ++ news) → w.grownBy w' v.ownBlock → (v'.ownBlock = v.ownBlock ∨ v'.ownBlock = some w.heap.size) → K (a.put o.dst v') w') :
 if Region.wanted o (yielded ops a.tmps) = true then Oper.wp P o a w K Q else E := by
 have hw : Region.wanted o (yielded ops a.tmps) = true := by simp [Region.wanted, hgd]
 rw [if_pos hw]
 obtain ⟨v', w', hrun, h2, h3, h4⟩ := run_app S base hown hr h1 hbytes h63 hbase o.type
 unfold Oper.wp execOp
 simp only [ho, resolve, invoke, builtin, Sem.run_bind, Sem.run_pure, Result.andThen_ok, List.map_toArray, List.map_cons, List.map_nil, hs, hx, hrun]
 exact hK v' w' h2 h3 h4
/-- A literal of elements of any size. -/
theorem Rd.litn (w : World) (xs : List Value) (n size : Nat) (hn : xs.length = n * size) (hm : n ≤ maxLen) (e : TypeId) : Rd (w.alloc (.cells xs.toArray e)) (some ⟨w.heap.size, 0, none⟩) n n size xs := by
 refine ⟨Nat.le_refl _, hm, (fun h => by cases h), hn, fun j u hj => ⟨w.heap.size, 0, rfl, ?_⟩⟩
 rw [Nat.zero_add, cell_of_row _ w.heap.size j xs.toArray e (0, 0) (heap_alloc_new w _)]
 simpa using hj

/-! ### lists of files -/
def cellF (f : Fl) (v : Value) : List Value := [.string (bs f.nm), v, .int .i64 (f.sf : Nat)]
def flatF : List Fl → List Value → List Value
 | f :: r, v :: vs => cellF f v ++ flatF r vs
 | _, _ => []
theorem flatF_snoc : ∀ (l : List Fl) (vs : List Value) (f : Fl) (u : Value), vs.length = l.length → flatF (l ++ [f]) (vs ++ [u]) = flatF l vs ++ cellF f u
 | [], [], f, u, _ => by simp [flatF]
 | g :: r, v :: vs, f, u, h => by
  show cellF g v ++ flatF (r ++ [f]) (vs ++ [u]) = (cellF g v ++ flatF r vs) ++ cellF f u
  rw [flatF_snoc r vs f u (by simpa using h), List.append_assoc]
 | [], _ :: _, _, _, h => by simp at h
 | _ :: _, [], _, _, h => by simp at h
theorem flatF_length : ∀ (l : List Fl) (vs : List Value), vs.length = l.length → (flatF l vs).length = l.length * 3
 | [], [], _ => rfl
 | g :: r, v :: vs, h => by
  show (cellF g v ++ flatF r vs).length = _
  rw [List.length_append, flatF_length r vs (by simpa using h)]
  simp [cellF]; omega
 | [], _ :: _, h => by simp at h
 | _ :: _, [], h => by simp at h
theorem flatF_get : ∀ (l : List Fl) (vs : List Value) (i : Nat) (f : Fl) (u : Value), l[i]? = some f → vs[i]? = some u → (flatF l vs)[3 * i]? = some (.string (bs f.nm)) ∧ (flatF l vs)[3 * i + 1]? = some u ∧ (flatF l vs)[3 * i + 2]? = some (.int .i64 (f.sf : Nat))
 | [], _, i, _, _, h, _ => by simp at h
 | _ :: _, [], i, _, _, _, h => by simp at h
 | g :: r, v :: vs, 0, f, u, h1, h2 => by
  simp at h1 h2
  subst h1 h2
  exact ⟨rfl, rfl, rfl⟩
 | g :: r, v :: vs, i + 1, f, u, h1, h2 => by
  have ih := flatF_get r vs i f u (by simpa using h1) (by simpa using h2)
  show (cellF g v ++ flatF r vs)[3 * (i + 1)]? = _ ∧ (cellF g v ++ flatF r vs)[3 * (i + 1) + 1]? = _ ∧ (cellF g v ++ flatF r vs)[3 * (i + 1) + 2]? = _
  have hl : (cellF g v).length = 3 := rfl
  rw [List.getElem?_append_right (by omega), List.getElem?_append_right (by omega), List.getElem?_append_right (by omega), hl]
  rw [show 3 * (i + 1) - 3 = 3 * i by omega, show 3 * (i + 1) + 1 - 3 = 3 * i + 1 by omega, show 3 * (i + 1) + 2 - 3 = 3 * i + 2 by omega]
  exact ih
theorem flatF_one : ∀ (l : List Fl) (vs : List Value), (∀ v ∈ vs, v.oneCell' = true) → ∀ u ∈ flatF l vs, u.oneCell' = true
 | [], _, _, u, h => by simp [flatF] at h
 | _ :: _, [], _, u, h => by simp [flatF] at h
 | g :: r, v :: vs, hv, u, h => by
  have h' : u ∈ cellF g v ++ flatF r vs := h
  rcases List.mem_append.1 h' with h1 | h1
  · simp [cellF] at h1
    rcases h1 with rfl | rfl | rfl
    · rfl
    · exact hv _ (by simp)
    · rfl
  · exact flatF_one r vs (fun x hx => hv x (by simp [hx])) u h1
theorem infoFile : (Tryz.prog.info? 26).map (fun i => (i.zero, i.size, i.bytes)) = some (some (.agg #[.string ByteArray.empty, .slice none 0 0, .int .i64 0]), 3, 48) := by kernel_rfl
theorem SFile : STy Tryz.prog 22 26 (.agg #[.string ByteArray.empty, .slice none 0 0, .int .i64 0]) 3 48 := ⟨Tryz.underlying22, info_parts infoFile, rfl, by decide⟩
/-- A list of files of the call's own: the row, and each file's bytes. -/
def OwnFs (w : World) (base : Nat) (v : Value) (vs : List Value) (l : List Fl) : Prop :=
 vs.length = l.length ∧ w.ownsRow base 26 3 v l.length (flatF l vs) ∧ ∀ (i : Nat) (f : Fl) (u : Value), l[i]? = some f → vs[i]? = some u → Own8 w base 5 u f.dt
theorem OwnFs.nil (w : World) (base : Nat) : OwnFs w base (.slice none 0 0) [] [] := ⟨rfl, World.ownsRow_nil _ _ _ _, fun i f u h => by simp at h⟩
theorem ownsRow_type {w : World} {base : Nat} {e : TypeId} {size : Nat} {v : Value} {n : Nat} {xs : List Value} (h : w.ownsRow base e size v n xs) {k : Nat} (hk : v.ownBlock = some k) : ∃ cur, w.heap[k]? = some (.cells cur e (0, 0)) := by
 rcases h.2 with ⟨rfl, _⟩ | ⟨g, cap, cur, rfl, hb, hg, _⟩
 · simp [Value.ownBlock] at hk
 · simp [Value.ownBlock] at hk; subst hk; exact ⟨cur, hg⟩
/-- One file more: its bytes just made, then the row. -/
theorem OwnFs.snoc {w w1 w2 : World} {base : Nat} {v v' : Value} {vs : List Value} {l : List Fl} (h : OwnFs w base v vs l) (f : Fl) (u : Value) (h1 : Below w.heap.size w w1) (hu : Own8 w1 base 5 u f.dt)
 (hown : w2.ownsRow base 26 3 v' (l.length + 1) (flatF l vs ++ cellF f u)) (hg : w1.grownBy w2 v.ownBlock) : OwnFs w2 base v' (vs ++ [u]) (l ++ [f]) := by
 obtain ⟨hl, hr, hd⟩ := h
 refine ⟨by simp [hl], by rw [flatF_snoc _ _ _ _ hl, List.length_append]; exact hown, fun i g x hg' hx => ?_⟩
 have old : ∀ {g : Fl} {x : Value}, Own8 w1 base 5 x g.dt → Own8 w2 base 5 x g.dt := fun {g x} ho => by
  refine ownsRow_keep ho fun k hk => hg.block k (World.ownsRow.lt ho k hk).2 fun e => ?_
  obtain ⟨cur, hc⟩ := ownsRow_type ho hk
  obtain ⟨cur', hc'⟩ := ownsRow_type hr e.symm
  have hlt := (Array.getElem?_eq_some_iff.1 hc').1
  have := (h1.block k hlt).trans hc'
  rw [this] at hc
  simp at hc
 rcases Nat.lt_or_ge i l.length with hi | hi
 · rw [List.getElem?_append_left hi] at hg'
   rw [List.getElem?_append_left (by omega)] at hx
   exact old ((hd i g x hg' hx).below (Nat.le_refl _) h1)
 · have : i = l.length := by
    have h2 := (List.getElem?_eq_some_iff.1 hg').1
    simp at h2; omega
   subst this
   rw [List.getElem?_append_right (Nat.le_refl _)] at hg'
   rw [List.getElem?_append_right (by omega)] at hx
   simp [hl] at hg' hx
   subst hg' hx
   exact old hu
theorem cell_below {W W' : World} {a : Addr} {v : Value} (h : W.cell? a = some v) (hb : Below W.heap.size W W') : W'.cell? a = some v := (hb.cell (p := a) (World.block_lt_of_cell? _ _ h)).trans h
theorem encStr_bs (l : List UInt8) : encStr l = .string (bs l) := rfl
def FilesPost (w : World) (l : List Fl) (e : Ending) (w' : World) : Prop := ∃ v vs, e = .returned v ∧ OwnFs w' w.heap.size v vs l ∧ Below w.heap.size w w'
set_option maxHeartbeats 2000000 in
theorem files_any (d : Nat) (S : Nat → Prop) (B : Int) (s : DS) (w : World) (h : DkS B w d S s) : Calls Tryz.prog 68 #[.pointer (some ⟨d, 0, none⟩)] w (FilesPost w s.fs) := by
 have HL := Lib.hid (list_any d S B s w h)
 have H0 := Lib.hid h
 have hl64 := h.ok.len
 clear h
 obtain ⟨n, hn⟩ : ∃ n, s.fs.length = n := ⟨_, rfl⟩
 have HN := Lib.hid hn
 rw [hn] at hl64
 go_enter Tryz.func68, Tryz.ntmps68
 go_wp2_with (go_at_call 20; ((with_reducible refine (HL.out).mono ?_); rintro e w1 ⟨v8, rfl, hrow, hb⟩; rw [List.length_map, hn] at hrow; obtain ⟨a8, cap8, rfl, hrd⟩ := Rd.of_own hrow; have HB := Lib.hid hb; have HR := Lib.hid hrd; clear hrow hb hrd))
 clear hn
 go_loopw [3, 5, 6, 10] (fun v _ _ i wr => ∃ k vs, k ≤ n ∧ i = .int .i64 (k : Nat) ∧ Hid (OwnFs wr w1.heap.size v vs (s.fs.take k)) ∧ Hid (Below w1.heap.size w1 wr)) (fun _ _ _ i _ => n - (intOf i).toNat)
 case atStart => exact ⟨0, [], Nat.zero_le _, rfl, OwnFs.nil _ _, Below.refl _ _⟩
 case round =>
  obtain ⟨k, vs, hk, rfl, HO, HBr⟩ := hrel
  by_cases hlt : k < n
  · have hkL : k < s.fs.length := by rw [HN.out]; exact hlt
    obtain ⟨f, hf⟩ : ∃ f, s.fs[k]? = some f := ⟨_, List.getElem?_eq_getElem hkL⟩
    have HF := Lib.hid hf
    have hD := (H0.out.below HB.out).below HBr.out
    obtain ⟨b8, off8, ha8, hb8, hc8⟩ := HR.out.at (by omega)
    subst ha8
    have hc := hc8 k (.string (bs f.nm)) (by rw [List.getElem?_map, List.getElem?_map, hf]; rfl)
    have g8 : wr.cell? ⟨b8, off8 + k, none⟩ = some (.string (bs f.nm)) := (HBr.out.cell (p := ⟨b8, off8 + k, none⟩) hb8).trans hc
    obtain ⟨m, L, hDk, hL, hC, hS, hok⟩ := hD
    have hfm : f ∈ s.fs := List.mem_of_getElem? hf
    have hgF : getF f.nm s.fs = some f := by
     cases hg : getF f.nm s.fs with
     | none => exact absurd rfl (getF_none hg f hfm)
     | some g => rw [srt_one hok.srt (getF_some hg).1 hfm (getF_some hg).2]
    obtain ⟨c, hgC, hcf⟩ := names_some hL hgF
    obtain ⟨hcL, hcn⟩ := getC_some hgC
    obtain ⟨hcb, hco⟩ := hDk.hc c hcL
    obtain ⟨a, cap, hv, hrd⟩ := hco.rd
    rw [hv] at hcb
    have hdt : c.dt = f.dt := by rw [← hcf]; rfl
    have hsf : c.sf = f.sf := by rw [← hcf]; rfl
    rw [hdt] at hcb hrd
    rw [hsf] at hcb
    have hle : f.dt.length ≤ 4194304 := Nat.le_trans (dt_le_tot hfm) hok.tot
    have hnm := (hok.each f hfm).2.1
    have hlk := look_at hDk.hm (n := f.nm) (by omega) hgC
    have c0 := cell_of_row wr d 0 _ _ _ hDk.hd
    have g0 := cell_of_row wr c.b 0 _ _ _ hcb
    have g1 := cell_of_row wr c.b 1 _ _ _ hcb
    have HRD := Lib.hid hrd
    have hbase : Hid (w1.heap.size ≤ wr.heap.size) := HBr.out.size
    clear hf hDk hL hC hS hok hfm hgF hgC hcf hcL hcn hcb hco hv hrd hdt hsf hc hc8 hb8 hkL
    go_wp2_with fail
    clear hlk c0 g8
    refine wp_region_ht 14 (fun W => W.cell? ⟨c.b, 0, none⟩ = some (.slice a f.dt.length cap) ∧ W.cell? ⟨c.b, 1, none⟩ = some (.int .i64 (f.sf : Nat))) (by kernel_rfl) (by kernel_rfl) ?_ (fun hHeld => ?_)
    · exact ⟨g0, g1⟩
    try simp only [Act.put, List.setIfInBounds_toArray, List.set_cons_zero, List.set_cons_succ]
    refine wpHT_takeD (i := 0) (d := 20) (v := ?_) (by kernel_rfl) rfl rfl (by decide) (by kernel_rfl) (by kernel_rfl) (fun _ _ _ h => h) (Or.inl ⟨by kernel_rfl, ?_⟩) (by assumption) ?_
    rotate_left
    · intro w hSw; (try dsimp only at hSw); go_simp; (try with_reducible rfl)
    try simp only [Act.put, List.setIfInBounds_toArray, List.set_cons_zero, List.set_cons_succ]
    refine wpHT_takeD (i := 1) (d := 21) (v := ?_) (by kernel_rfl) rfl rfl (by decide) (by kernel_rfl) (by kernel_rfl) (fun _ _ _ h => h) (Or.inl ⟨by kernel_rfl, ?_⟩) (by assumption) ?_
    rotate_left
    · intro w hSw; (try dsimp only at hSw); go_simp; (try with_reducible rfl)
    try simp only [Act.put, List.setIfInBounds_toArray, List.set_cons_zero, List.set_cons_succ]
    refine wpHT_takeD (i := 3) (d := 23) (v := ?_) (by kernel_rfl) rfl rfl (by decide) (by kernel_rfl) (by kernel_rfl) (fun _ _ _ h => h) (Or.inl ⟨by kernel_rfl, ?_⟩) (by assumption) ?_
    rotate_left
    · intro w hSw; (try dsimp only at hSw); go_simp; (try with_reducible rfl)
    try simp only [Act.put, List.setIfInBounds_toArray, List.set_cons_zero, List.set_cons_succ]
    refine wpHT_takeD (i := 4) (d := 24) (v := ?_) (by kernel_rfl) rfl rfl (by decide) (by kernel_rfl) (by kernel_rfl) (fun _ _ _ h => h) (Or.inl ⟨by kernel_rfl, ?_⟩) (by assumption) ?_
    rotate_left
    · intro w hSw; (try dsimp only at hSw); go_simp; (try with_reducible rfl)
    try simp only [Act.put, List.setIfInBounds_toArray, List.set_cons_zero, List.set_cons_succ]
    refine wpHT_takeD (i := 5) (d := 25) (v := ?_) (by kernel_rfl) rfl rfl (by decide) (by kernel_rfl) (by kernel_rfl) (fun _ _ _ h => h) (Or.inl ⟨by kernel_rfl, ?_⟩) (by assumption) ?_
    rotate_left
    · intro w hSw; (try dsimp only at hSw); go_simp; (try with_reducible rfl)
    try simp only [Act.put, List.setIfInBounds_toArray, List.set_cons_zero, List.set_cons_succ]
    refine wpHT_takeD (i := 6) (d := 26) (v := ?_) (by kernel_rfl) rfl rfl (by decide) (by kernel_rfl) (by kernel_rfl) (fun _ _ _ h => h) (Or.inl ⟨by kernel_rfl, ?_⟩) (by assumption) ?_
    rotate_left
    · intro w hSw; (try dsimp only at hSw); go_simp; (try with_reducible rfl)
    try simp only [Act.put, List.setIfInBounds_toArray, List.set_cons_zero, List.set_cons_succ]
    refine wpHT_takeD (i := 8) (d := 28) (v := ?_) (by kernel_rfl) rfl rfl (by decide) (by kernel_rfl) (by kernel_rfl) (fun _ _ _ h => h) (Or.inl ⟨by kernel_rfl, ?_⟩) (by assumption) ?_
    rotate_left
    · intro w hSw; (try dsimp only at hSw); go_simp; (try with_reducible rfl)
    try simp only [Act.put, List.setIfInBounds_toArray, List.set_cons_zero, List.set_cons_succ]
    refine wpHT_takeD (i := 9) (d := 29) (v := ?_) (by kernel_rfl) rfl rfl (by decide) (by kernel_rfl) (by kernel_rfl) (fun _ _ _ h => h) (Or.inl ⟨by kernel_rfl, ?_⟩) (by assumption) ?_
    rotate_left
    · intro w hSw; (try dsimp only at hSw); go_simp; (try with_reducible rfl)
    try simp only [Act.put, List.setIfInBounds_toArray, List.set_cons_zero, List.set_cons_succ]
    refine wpHT_takeD (i := 10) (d := 30) (v := ?_) (by kernel_rfl) rfl rfl (by decide) (by kernel_rfl) (by kernel_rfl) (fun _ _ _ h => h) (Or.inl ⟨by kernel_rfl, ?_⟩) (by assumption) ?_
    rotate_left
    · intro w hSw; (try dsimp only at hSw); go_simp; (try with_reducible rfl)
    try simp only [Act.put, List.setIfInBounds_toArray, List.set_cons_zero, List.set_cons_succ]
    refine wpHT_takeD (i := 11) (d := 31) (v := ?_) (by kernel_rfl) rfl rfl (by decide) (by kernel_rfl) (by kernel_rfl) (fun _ _ _ h => h) (Or.inl ⟨by kernel_rfl, ?_⟩) (by assumption) ?_
    rotate_left
    · intro w hSw; (try dsimp only at hSw); go_simp; (try with_reducible rfl)
    try simp only [Act.put, List.setIfInBounds_toArray, List.set_cons_zero, List.set_cons_succ]
    refine wpHT_one (i := 2) (by kernel_rfl) rfl (by decide) (fun K hK => ?_)
    go_simp
    refine hK.out _ _ ?_ (fun hHeld => ?_)
    · exact ⟨cell_alloc_keep (w := wr.drew) g0, cell_alloc_keep (w := wr.drew) g1⟩
    clear hK K
    try simp only [Act.put, List.setIfInBounds_toArray, List.set_cons_zero, List.set_cons_succ]
    refine wpHT_one (i := 7) (by kernel_rfl) rfl (by decide) (fun K hK => ?_)
    refine step_app2 S5 rfl _ _ rfl w1.heap.size rfl (ownsRow_mono (made0 wr.drew) hbase.out) rfl (HRD.out.below ((Below.refl _ wr).drew.alloc (Nat.le_refl _) _)).2 (B8_one _) (by omega) (by unfold maxLen; omega) (Nat.le_trans hbase.out (by simp)) ?_
    intro v2 w2 ho2 hg2 hl2
    have ho2 : Own8 w2 w1.heap.size 5 v2 f.dt := Own8.mk ho2 (by simp) (by simp)
    obtain ⟨a2, cap2, rfl, hrd2⟩ := ho2.rd
    have hb2 : Below wr.heap.size wr w2 := ((Below.refl _ wr).drew.alloc (Nat.le_refl _) _).grown hg2 (by simp) (fun k hk => Nat.le_of_eq (Option.some.inj hk))
    have g0 : w2.cell? ⟨c.b, 0, none⟩ = some (.slice a f.dt.length cap) := cell_below g0 hb2
    have g1 : w2.cell? ⟨c.b, 1, none⟩ = some (.int .i64 (f.sf : Nat)) := cell_below g1 hb2
    have HO2 := Lib.hid ho2
    have HB2 := Lib.hid hb2
    clear ho2 hg2 hl2 hrd2 hb2
    refine hK.out _ _ ?_ (fun hHeld => ?_)
    · exact ⟨g0, g1⟩
    clear hK K
    try simp only [Act.put, List.setIfInBounds_toArray, List.set_cons_zero, List.set_cons_succ]
    refine wpHT_takeD (i := 12) (d := 32) (v := ?_) (by kernel_rfl) rfl rfl (by decide) (by kernel_rfl) (by kernel_rfl) (fun _ _ _ h => h) (Or.inl ⟨by kernel_rfl, ?_⟩) (by assumption) ?_
    rotate_left
    · intro w hSw; (try dsimp only at hSw); go_simp; (try with_reducible rfl)
    try simp only [Act.put, List.setIfInBounds_toArray, List.set_cons_zero, List.set_cons_succ]
    refine wpHT_one (i := 13) (by kernel_rfl) rfl (by decide) (fun K hK => ?_)
    go_simp
    refine hK.out _ _ ?_ (fun hHeld => ?_)
    · exact ⟨cell_alloc_keep g0, cell_alloc_keep g1⟩
    clear hK K
    try simp only [Act.put, List.setIfInBounds_toArray, List.set_cons_zero, List.set_cons_succ]
    refine wpHT_done (by kernel_rfl) ?_
    simp only [List.drop_succ_cons, List.drop_zero]
    clear hHeld
    have hown0 := HO.out.2.1
    have hl0 := HO.out.1
    have hklen : (s.fs.take k).length = k := by rw [List.length_take, HN.out]; omega
    rw [hklen] at hown0
    have hb2 : Below wr.heap.size wr (w2.alloc (.cells #[.string (bs f.nm), .slice a2 f.dt.length cap2, .int .i64 (f.sf : Nat)] 26)) := HB2.out.alloc HB2.out.size _
    have HOW := Lib.hid (ownsRow_keep hown0 (fun q hq => hb2.block q (World.ownsRow.lt hown0 q hq).2))
    have HB3 := Lib.hid hb2
    clear hown0 hl0 hb2
    go_wp2_with (at_builtin; refine wpList_app2 SFile rfl _ _ rfl w1.heap.size rfl HOW.out rfl (Rd.litn w2 (cellF f (.slice a2 f.dt.length cap2)) 1 3 rfl (by decide) 26) (by intro u hu; simp [cellF] at hu; rcases hu with rfl | rfl | rfl <;> rfl) (by omega) (by unfold maxLen; omega) (Nat.le_trans hbase.out (Nat.le_trans HB2.out.size (by simp))) ?_; intro v3 w3 ho3 hg3 hl3; have HO3 := Lib.hid ho3; have HG3 := Lib.hid hg3; clear ho3 hg3 hl3)
    go_roundw
    case rel =>
     refine ⟨k + 1, vs ++ [.slice a2 f.dt.length cap2], by omega, by go_num, ?_, ?_⟩
     · have hsn := HO.out.snoc f (.slice a2 f.dt.length cap2) HB3.out (HO2.out.alloc _) (v' := v3) (w2 := w3) (by rw [hklen]; exact HO3.out) HG3.out
       have : s.fs.take (k + 1) = s.fs.take k ++ [f] := by rw [List.take_add_one, HF.out]; rfl
       rw [this]; exact hsn
     · exact HBr.out.trans ((HB3.out.mono hbase.out).grown HG3.out (Nat.le_trans hbase.out HB3.out.size) (fun q hq => (World.ownsRow.lt HOW.out q hq).1))
    case measure => simp [intOf]; omega
  · obtain rfl : k = n := by omega
    go_wp2
    go_ret
    exact ⟨_, vs, rfl, by have := HO.out; rw [List.take_of_length_le (by rw [HN.out]; omega)] at this; exact ⟨this.1, ownsRow_mono this.2.1 HB.out.size, fun i f u h1 h2 => (this.2.2 i f u h1 h2).mono HB.out.size⟩, HB.out.trans (HBr.out.mono HB.out.size)⟩
end Go.Proofs.YtjjcilinghgphaaGreat

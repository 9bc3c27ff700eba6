/-
  Plain laws of chapter 9: programs: what is right about one, what it names, what it does. No walk.
  The walks of prog's small functions: steps, of, code, form; the reference's tables.
  The walks of prog's of, code, form; the reference's named, takes, word.
-/
import Derived.Test.YtalpbphfmelhhaaGreatDoorHM
import Derived.Test.YtalpbphfmelhhaaGreatDoorD4
import Derived.Test.YtalpbphfmelhhaaGreatDoorKA
import Derived.Test.YtalpbphfmelhhaaGreatDoorDB
import Derived.Deep.WholeRow
/-! ### Plain laws of chapter 9: programs: what is right about one, what it names, what it does. No walk. -/
namespace Go.Proofs.YtalpbphfmelhhaaGreatDoor
open Go.RowKit Go.Maps
set_option maxRecDepth 100000

/-- A value. -/
structure Vl where
  k : Int
  x : UInt64
  s : List UInt8
def Vl.may (v : Vl) : Bool := mayB v.k v.x v.s
def Vl.num (x : UInt64) : Vl := ⟨1, canon x, []⟩
def Vl.nil : Vl := ⟨0, 0, []⟩
abbrev Vl.val (v : Vl) : Value := VA v.k v.x v.s
def cmpL (a b : Vl) : Int := cmpV a.k a.x a.s b.k b.x b.s
def Vl.ofB (b : Bool) : Vl := Vl.num (if b then UInt64.ofNat 4607182418800017408 else 0)
/-- A step. -/
structure OpP where
  c : Int
  key : List UInt8
  v : Vl
/-- What was seen of a key. -/
structure SnP where
  key : List UInt8
  v : Vl
  w : Int
  l : Int
  n : Int
def namesC (c : Int) : Int := if c = 1 ∨ c = 2 ∨ c = 3 then 1 else if c = 4 then 2 else 0
def takeC (c : Int) : Int := if c = 1 ∨ c = 3 ∨ c = 4 then 0 else if c = 2 ∨ c = 13 ∨ c = 14 then 1 else 2
def giveC (c : Int) : Int := if c = 2 ∨ c = 3 ∨ c = 13 then 0 else if c = 14 ∨ c = 15 then 2 else 1
def codeOk (c : Int) : Bool := decide (1 ≤ c) && decide (c ≤ 15)
def formO (o : OpP) : Bool := (if namesC o.c = 1 then keyB o.key else o.key.isEmpty) && (if namesC o.c = 2 then o.v.may else (o.v.may && decide (o.v.k = 0)))
def chkGo : List OpP → Int → Int
  | [], _ => 0
  | o :: r, h => if codeOk o.c = false then 7 else if formO o = false then 4 else if h < takeC o.c then 5 else if 16 < h + giveC o.c - takeC o.c then 2 else chkGo r (h + giveC o.c - takeC o.c)
/-- The keys that steps of these codes name. -/
def namedP (a b : Int) (p : List OpP) : List (List UInt8) := p.foldl (fun l o => if (o.c = a ∨ o.c = b) ∧ keyB o.key = true then insK o.key l else l) []
def readsP (p : List OpP) : List (List UInt8) := namedP 1 1 p
def namesP (p : List OpP) : List (List UInt8) := namedP 2 3 p
def checkP (p : List OpP) : Int := if 40 < p.length then 3 else if chkGo p 0 ≠ 0 then chkGo p 0 else if 16 < (readsP p).length ∨ 16 < (namesP p).length then 3 else 0
/-- A run: the stack, its top first; what was written, by rising keys. -/
structure RS where
  st : List Vl
  wr : List (List UInt8 × Vl)
def holdsB (v : Vl) : Bool := if v.k = 1 then (decide (classOf v.x ≠ 0) && decide (classOf v.x ≠ 4) && decide (classOf v.x ≠ 5)) else if v.k = 2 then !v.s.isEmpty else false
def recX (c : Int) (x y : UInt64) : UInt64 := if c = 5 then opOf .add x y else if c = 6 then opOf .sub x y else if c = 7 then opOf .mul x y else if c = 8 then opOf .quo x y else if c = 9 then leastOf x y else mostOf x y
def seenV (sn : List SnP) (k : List UInt8) : Vl := match sn.find? (fun s => s.key == k) with | some s => s.v | none => Vl.nil
def getV (sn : List SnP) (r : RS) (k : List UInt8) : Vl := (getG k r.wr).getD (seenV sn k)
/-- A step of two values. -/
def twoP (c : Int) (a b : Vl) : List Vl × Int :=
  if c = 11 then ([Vl.ofB (decide (cmpL a b < 0))], 0) else if c = 12 then ([Vl.ofB (decide (cmpL a b = 0))], 0) else if c = 15 then ([a, b], 0)
  else if a.k = 2 ∨ b.k = 2 then ([], 23) else ([Vl.num (recX c a.x b.x)], 0)
def stepP (sn : List SnP) (o : OpP) (r : RS) : RS × Int :=
  if o.c = 1 then (⟨getV sn r o.key :: r.st, r.wr⟩, 0)
  else if o.c = 3 then (⟨r.st, putG (o.key, Vl.nil) r.wr⟩, 0)
  else if o.c = 4 then (⟨o.v :: r.st, r.wr⟩, 0)
  else match r.st with
    | [] => (r, 99)
    | b :: t =>
      if o.c = 2 then (⟨t, putG (o.key, b) r.wr⟩, 0)
      else if o.c = 13 then (if holdsB b then (⟨t, r.wr⟩, 0) else (⟨t, r.wr⟩, 22))
      else if o.c = 14 then (⟨b :: b :: t, r.wr⟩, 0)
      else match t with
        | [] => (r, 99)
        | a :: t => (⟨(twoP o.c a b).1 ++ t, r.wr⟩, (twoP o.c a b).2)
def runGo (sn : List SnP) : List OpP → RS → RS × Int
  | [], r => (r, 0)
  | o :: p, r => if (stepP sn o r).2 ≠ 0 then stepP sn o r else runGo sn p (stepP sn o r).1
def missB (sn : List SnP) (ks : List (List UInt8)) : Bool := ks.any fun k => (sn.find? (fun s => s.key == k)).isNone
def badB (sn : List SnP) (ks : List (List UInt8)) : Bool := ks.any fun k => !(seenV sn k).may
def runE (p : List OpP) (sn : List SnP) : Int :=
  if checkP p ≠ 0 then checkP p else if missB sn (readsP p) then 8 else if badB sn (readsP p) then 4 else (runGo sn p ⟨[], []⟩).2
def runW (p : List OpP) (sn : List SnP) : List (List UInt8 × Vl) := if runE p sn ≠ 0 then [] else (runGo sn p ⟨[], []⟩).1.wr
end Go.Proofs.YtalpbphfmelhhaaGreatDoor

/-! ### The walks of prog's small functions: steps, of, code, form; the reference's tables. -/
namespace Go.Proofs.YtalpbphfmelhhaaGreatDoor
open Go.RowKit Go.Maps
set_option maxRecDepth 100000
attribute [local go_sem] bs_size bs_get bs_toList frombits tobits run_store_float
/-- A code's word. -/
def wordC (c : Int) : List UInt8 :=
  if c = 1 then [103, 101, 116] else if c = 2 then [112, 117, 116] else if c = 3 then [100, 114, 111, 112] else if c = 4 then [112, 117, 115, 104] else if c = 5 then [97, 100, 100]
  else if c = 6 then [115, 117, 98] else if c = 7 then [109, 117, 108] else if c = 8 then [100, 105, 118] else if c = 9 then [109, 105, 110] else if c = 10 then [109, 97, 120]
  else if c = 11 then [108, 101, 115, 115] else if c = 12 then [115, 97, 109, 101] else if c = 13 then [110, 101, 101, 100] else if c = 14 then [100, 117, 112] else if c = 15 then [115, 119, 97, 112] else []
def stepsA : Array Value := #[.string ⟨#[]⟩, .int .i64 0, .int .i64 0, .int .i64 0, .string ⟨#[103, 101, 116]⟩, .int .i64 1, .int .i64 0, .int .i64 1, .string ⟨#[112, 117, 116]⟩, .int .i64 1, .int .i64 1, .int .i64 0, .string ⟨#[100, 114, 111, 112]⟩, .int .i64 1, .int .i64 0, .int .i64 0, .string ⟨#[112, 117, 115, 104]⟩, .int .i64 2, .int .i64 0, .int .i64 1, .string ⟨#[97, 100, 100]⟩, .int .i64 0, .int .i64 2, .int .i64 1, .string ⟨#[115, 117, 98]⟩, .int .i64 0, .int .i64 2, .int .i64 1, .string ⟨#[109, 117, 108]⟩, .int .i64 0, .int .i64 2, .int .i64 1, .string ⟨#[100, 105, 118]⟩, .int .i64 0, .int .i64 2, .int .i64 1, .string ⟨#[109, 105, 110]⟩, .int .i64 0, .int .i64 2, .int .i64 1, .string ⟨#[109, 97, 120]⟩, .int .i64 0, .int .i64 2, .int .i64 1, .string ⟨#[108, 101, 115, 115]⟩, .int .i64 0, .int .i64 2, .int .i64 1, .string ⟨#[115, 97, 109, 101]⟩, .int .i64 0, .int .i64 2, .int .i64 1, .string ⟨#[110, 101, 101, 100]⟩, .int .i64 0, .int .i64 1, .int .i64 0, .string ⟨#[100, 117, 112]⟩, .int .i64 0, .int .i64 1, .int .i64 2, .string ⟨#[115, 119, 97, 112]⟩, .int .i64 0, .int .i64 2, .int .i64 2]
def stepV (c : Int) : Value := .agg #[.string (bs (wordC c)), .int .i64 (namesC c), .int .i64 (takeC c), .int .i64 (giveC c)]
theorem stepsA_at (c : Nat) (h1 : 1 ≤ c) (h2 : c ≤ 15) : stepsA.extract (c * 4) (c * 4 + 4) = #[.string (bs (wordC c)), .int .i64 (namesC c), .int .i64 (takeC c), .int .i64 (giveC c)] := by
  have : c = 1 ∨ c = 2 ∨ c = 3 ∨ c = 4 ∨ c = 5 ∨ c = 6 ∨ c = 7 ∨ c = 8 ∨ c = 9 ∨ c = 10 ∨ c = 11 ∨ c = 12 ∨ c = 13 ∨ c = 14 ∨ c = 15 := by omega
  rcases this with rfl | rfl | rfl | rfl | rfl | rfl | rfl | rfl | rfl | rfl | rfl | rfl | rfl | rfl | rfl <;> rfl
def stepsZ : Array Value := #[.string ⟨#[]⟩, .int .i64 0, .int .i64 0, .int .i64 0, .string ⟨#[]⟩, .int .i64 0, .int .i64 0, .int .i64 0, .string ⟨#[]⟩, .int .i64 0, .int .i64 0, .int .i64 0, .string ⟨#[]⟩, .int .i64 0, .int .i64 0, .int .i64 0, .string ⟨#[]⟩, .int .i64 0, .int .i64 0, .int .i64 0, .string ⟨#[]⟩, .int .i64 0, .int .i64 0, .int .i64 0, .string ⟨#[]⟩, .int .i64 0, .int .i64 0, .int .i64 0, .string ⟨#[]⟩, .int .i64 0, .int .i64 0, .int .i64 0, .string ⟨#[]⟩, .int .i64 0, .int .i64 0, .int .i64 0, .string ⟨#[]⟩, .int .i64 0, .int .i64 0, .int .i64 0, .string ⟨#[]⟩, .int .i64 0, .int .i64 0, .int .i64 0, .string ⟨#[]⟩, .int .i64 0, .int .i64 0, .int .i64 0, .string ⟨#[]⟩, .int .i64 0, .int .i64 0, .int .i64 0, .string ⟨#[]⟩, .int .i64 0, .int .i64 0, .int .i64 0, .string ⟨#[]⟩, .int .i64 0, .int .i64 0, .int .i64 0, .string ⟨#[]⟩, .int .i64 0, .int .i64 0, .int .i64 0]
theorem results_cell_one' {fn : Func} {p : Tmp} {ty : TypeId} (h : fn.results = #[.cell p ty]) (tmps : Array Value) (P : Program) (w : World) :
    (results fn tmps).run P w = ((asAddr (tmps.getD p undef)).run P w).andThen fun a w₁ => ((loadVar ty a).run P w₁) := by
  simp only [results, h]
  simp [Sem.run_bind, Result.andThen]
theorem wpList_val {P : Program} {ops : Array Oper} {Q : Exit → Act → World → Prop} {a : Act} {w : World} {rest : List Oper} {o : Oper} (hgd : o.guard = none) (v : Value) (hrun : (execOp a.eval o).run P w = .ok (.value v) w) (hK : wpList P ops Q rest (a.put o.dst v) w) : wpList P ops Q (o :: rest) a w := by
  refine wpList_plain hgd fun K hK' => ?_
  unfold Oper.wp
  rw [hrun]
  exact hK' _ _ hK
theorem wpList_rowStore {P : Program} {ops : Array Oper} {Q : Exit → Act → World → Prop} {a : Act} {w : World} {rest : List Oper} {o : Oper} (hgd : o.guard = none) (t : TypeId) (p x : Operand) (ho : o.op = .store t p x) (c c' : Array Value) (hp : a.eval p = .pointer (some ⟨w.heap.size, 0, none⟩)) (hx : a.eval x = .agg c')
    (hi : (P.info? t).map (·.size) = some c'.size) (hs : c.size = c'.size) (h1 : c'.all (·.oneCell') = true) (hK : wpList P ops Q rest (a.put o.dst undef) (w.alloc (.cells c' t))) : wpList P ops Q (o :: rest) a (w.alloc (.cells c t)) := by
  refine wpList_plain hgd fun K hK' => ?_
  have h := run_storeAt_new (P := P) w t c c' hi hs h1
  unfold Oper.wp
  simp only [execOp, ho, hp, hx]
  simp [h]
  exact hK' _ _ hK
set_option maxHeartbeats 1000000 in
theorem steps_any (w : World) : Calls Tryz.prog 55 #[] w fun e w' => e = .returned (.agg stepsA) ∧ Below w.heap.size w w' := by
  go_enter Tryz.func55, Tryz.ntmps55
  refine wp_seq ?_
  refine wp_region_list ?_
  refine wpList_var rfl 96 rfl stepsZ (by kernel_rfl) ?_
  refine wpList_nil ?_
  refine wp_seq ?_
  refine wp_region_list ?_
  refine wpList_val rfl (.agg #[.string ⟨#[103, 101, 116]⟩, .int .i64 1, .int .i64 0, .int .i64 1]) (by kernel_rfl) ?_
  refine wpList_val rfl (.agg #[.string ⟨#[112, 117, 116]⟩, .int .i64 1, .int .i64 1, .int .i64 0]) (by kernel_rfl) ?_
  refine wpList_val rfl (.agg #[.string ⟨#[100, 114, 111, 112]⟩, .int .i64 1, .int .i64 0, .int .i64 0]) (by kernel_rfl) ?_
  refine wpList_val rfl (.agg #[.string ⟨#[112, 117, 115, 104]⟩, .int .i64 2, .int .i64 0, .int .i64 1]) (by kernel_rfl) ?_
  refine wpList_val rfl (.agg #[.string ⟨#[97, 100, 100]⟩, .int .i64 0, .int .i64 2, .int .i64 1]) (by kernel_rfl) ?_
  refine wpList_val rfl (.agg #[.string ⟨#[115, 117, 98]⟩, .int .i64 0, .int .i64 2, .int .i64 1]) (by kernel_rfl) ?_
  refine wpList_val rfl (.agg #[.string ⟨#[109, 117, 108]⟩, .int .i64 0, .int .i64 2, .int .i64 1]) (by kernel_rfl) ?_
  refine wpList_val rfl (.agg #[.string ⟨#[100, 105, 118]⟩, .int .i64 0, .int .i64 2, .int .i64 1]) (by kernel_rfl) ?_
  refine wpList_val rfl (.agg #[.string ⟨#[109, 105, 110]⟩, .int .i64 0, .int .i64 2, .int .i64 1]) (by kernel_rfl) ?_
  refine wpList_val rfl (.agg #[.string ⟨#[109, 97, 120]⟩, .int .i64 0, .int .i64 2, .int .i64 1]) (by kernel_rfl) ?_
  refine wpList_val rfl (.agg #[.string ⟨#[108, 101, 115, 115]⟩, .int .i64 0, .int .i64 2, .int .i64 1]) (by kernel_rfl) ?_
  refine wpList_val rfl (.agg #[.string ⟨#[115, 97, 109, 101]⟩, .int .i64 0, .int .i64 2, .int .i64 1]) (by kernel_rfl) ?_
  refine wpList_val rfl (.agg #[.string ⟨#[110, 101, 101, 100]⟩, .int .i64 0, .int .i64 1, .int .i64 0]) (by kernel_rfl) ?_
  refine wpList_val rfl (.agg #[.string ⟨#[100, 117, 112]⟩, .int .i64 0, .int .i64 1, .int .i64 2]) (by kernel_rfl) ?_
  refine wpList_val rfl (.agg #[.string ⟨#[115, 119, 97, 112]⟩, .int .i64 0, .int .i64 2, .int .i64 2]) (by kernel_rfl) ?_
  refine wpList_val rfl (.agg stepsA) (by kernel_rfl) ?_
  refine wpList_rowStore (by kernel_rfl) 96 (.tmp 0) (.tmp 16) (by kernel_rfl) stepsZ stepsA (by kernel_rfl) (by kernel_rfl) (by kernel_rfl) (by kernel_rfl) (by kernel_rfl) ?_
  refine wpList_nil ?_
  refine wp_ret ?_
  have hld := run_loadVar_new (P := Tryz.prog) w 96 stepsA 16 64 Tryz.underlying96 (by kernel_rfl)
  refine bodyPost_ret (v := .agg stepsA) ?_ rfl ⟨rfl, (Below.refl _ _).alloc (Nat.le_refl _) _⟩
  rw [results_cell_one' rfl]
  simp [asAddr, Result.andThen, Act.put, hld]
end Go.Proofs.YtalpbphfmelhhaaGreatDoor

/-! ### The walks of prog's of, code, form; the reference's named, takes, word. -/
namespace Go.Proofs.YtalpbphfmelhhaaGreatDoor
open Go.RowKit Go.Maps
set_option maxRecDepth 100000
attribute [local go_sem] bs_size bs_get bs_toList frombits tobits run_store_float
theorem next_below' {w w1 w2 : World} (h : Below w.heap.size w w1) (h2 : Below w1.heap.size w1 w2) : Below w.heap.size w w2 := h.trans (h2.mono h.size)
theorem steps_index (c : Nat) (h1 : c < 16) (W : World) : (Instr.index 96 (.agg stepsA) (.int .i64 (c : Int))).run Tryz.prog W = .ok (.agg (stepsA.extract (c * 4) (c * 4 + 4))) W := by
  have h2 : (0 : Int) ≤ (c : Int) ∧ (c : Int) < 16 := by omega
  unfold Instr.index
  simp [asIntOf, part, Result.andThen, Tryz.sizeOf64, Tryz.isAgg64, h1]
def ofV (c : Int) : Value := if codeOk c then stepV c else .agg #[.string (bs []), .int .i64 0, .int .i64 0, .int .i64 0]
set_option maxHeartbeats 1000000 in
theorem of_any' (c : Int) (w : World) : Calls Tryz.prog 36 #[.int .i64 c] w fun e w' => e = .returned (.tuple #[ofV c, .bool (codeOk c)]) ∧ Below w.heap.size w w' := by
  by_cases h1 : c < 1
  · have hc : codeOk c = false := by unfold codeOk; simp; omega
    have hv : ofV c = .agg #[.string (bs []), .int .i64 0, .int .i64 0, .int .i64 0] := by unfold ofV; rw [hc]; rfl
    rw [hv, hc]
    clear hv hc
    go_enter Tryz.func36, Tryz.ntmps36
    go_wp2_with fail
    refine bodyPost_ret (v := .tuple #[.agg #[.string (bs []), .int .i64 0, .int .i64 0, .int .i64 0], .bool false]) (by rw [results_cell_tmp rfl]; simp [asAddr, Result.andThen, go_sem] <;> first | rfl | exact ⟨rfl, rfl⟩) rfl ⟨rfl, by first | exact (Below.refl _ _).alloc (Nat.le_refl _) _ | exact ((Below.refl _ _).alloc (Nat.le_refl _) _).setCell (Nat.le_refl _) _⟩
  by_cases h2 : 15 < c
  · have hc : codeOk c = false := by unfold codeOk; simp; omega
    have hv : ofV c = .agg #[.string (bs []), .int .i64 0, .int .i64 0, .int .i64 0] := by unfold ofV; rw [hc]; rfl
    rw [hv, hc]
    clear hv hc
    go_enter Tryz.func36, Tryz.ntmps36
    go_wp2_with fail
    refine bodyPost_ret (v := .tuple #[.agg #[.string (bs []), .int .i64 0, .int .i64 0, .int .i64 0], .bool false]) (by rw [results_cell_tmp rfl]; simp [asAddr, Result.andThen, go_sem] <;> first | rfl | exact ⟨rfl, rfl⟩) rfl ⟨rfl, by first | exact (Below.refl _ _).alloc (Nat.le_refl _) _ | exact ((Below.refl _ _).alloc (Nat.le_refl _) _).setCell (Nat.le_refl _) _⟩
  obtain ⟨n, rfl⟩ : ∃ n : Nat, c = (n : Int) := ⟨c.toNat, by omega⟩
  have hc : codeOk n = true := by unfold codeOk; simp; omega
  have hv : ofV n = stepV n := by unfold ofV; rw [hc]; rfl
  have hx := steps_index n (by omega)
  rw [stepsA_at n (by omega) (by omega)] at hx
  rw [hv, hc]
  unfold stepV
  have h3 : n < 16 := by omega
  have d1 : decide (n < 1) = false := by simp; omega
  have d2 : decide (15 < n) = false := by simp; omega
  clear hv hc
  have HS : Hid (∀ W, Calls Tryz.prog 55 #[] W fun e w' => e = .returned (.agg stepsA) ∧ Below W.heap.size W w') := steps_any
  have hba : Below w.heap.size w (w.alloc (.cells #[.string ⟨#[]⟩, .int .i64 0, .int .i64 0, .int .i64 0] 64)) := (Below.refl _ _).alloc (Nat.le_refl _) _
  have hra := heap_alloc_new w (.cells #[.string ⟨#[]⟩, .int .i64 0, .int .i64 0, .int .i64 0] 64)
  obtain ⟨X, hX⟩ : ∃ X, w.alloc (.cells #[.string ⟨#[]⟩, .int .i64 0, .int .i64 0, .int .i64 0] 64) = X := ⟨_, rfl⟩
  rw [hX] at hba hra
  have hlt := (Array.getElem?_eq_some_iff.1 hra).1
  obtain ⟨q, hq⟩ : ∃ q, w.heap.size = q := ⟨_, rfl⟩
  rw [hq] at hra hlt
  have HBA := Lib.hid hba
  have HQ := Lib.hid hq
  clear hba
  go_enter Tryz.func36, Tryz.ntmps36
  go_wp2_with fail
  go_at_call 55
  refine (HS.out _).mono ?_
  rintro e w1 ⟨rfl, hb1⟩
  have hr1 := (hb1.block q hlt).trans hra
  have HB1 := Lib.hid (next_below' HBA.out hb1)
  have c0 := cell_of_row w1 q 0 _ _ _ hr1
  have c1 := cell_of_row w1 q 1 _ _ _ hr1
  have c2 := cell_of_row w1 q 2 _ _ _ hr1
  have c3 := cell_of_row w1 q 3 _ _ _ hr1
  simp only [List.getElem?_toArray, List.getElem?_cons_zero, List.getElem?_cons_succ] at c0 c1 c2 c3
  have f0 := frozen_of_row w1 q 0 _ _ hr1
  have f1 := frozen_of_row w1 q 1 _ _ hr1
  have f2 := frozen_of_row w1 q 2 _ _ hr1
  have f3 := frozen_of_row w1 q 3 _ _ hr1
  clear hX hq hra hlt hb1
  have hr2 := row_set (i := 3) (v := .int .i64 (giveC n)) (row_set (i := 2) (v := .int .i64 (takeC n)) (row_set (i := 1) (v := .int .i64 (namesC n)) (row_set (i := 0) (v := .string (bs (wordC n))) hr1 rfl) rfl) rfl) rfl
  have HR2 := Lib.hid hr2
  have HB5 : Hid (Below w.heap.size w ((((w1.setCell ⟨q, 0, none⟩ (.string (bs (wordC n)))).setCell ⟨q, 1, none⟩ (.int .i64 (namesC n))).setCell ⟨q, 2, none⟩ (.int .i64 (takeC n))).setCell ⟨q, 3, none⟩ (.int .i64 (giveC n)))) :=
    (((HB1.out.setCell (p := ⟨q, 0, none⟩) (by rw [← HQ.out]; exact Nat.le_refl _) _).setCell (p := ⟨q, 1, none⟩) (by rw [← HQ.out]; exact Nat.le_refl _) _).setCell (p := ⟨q, 2, none⟩) (by rw [← HQ.out]; exact Nat.le_refl _) _).setCell (p := ⟨q, 3, none⟩) (by rw [← HQ.out]; exact Nat.le_refl _) _
  clear hr1 hr2
  go_wp2_with fail
  obtain ⟨W5, hW5⟩ : ∃ W5, (((w1.setCell ⟨q, 0, none⟩ (.string (bs (wordC n)))).setCell ⟨q, 1, none⟩ (.int .i64 (namesC n))).setCell ⟨q, 2, none⟩ (.int .i64 (takeC n))).setCell ⟨q, 3, none⟩ (.int .i64 (giveC n)) = W5 := ⟨_, rfl⟩
  rw [hW5] at HR2 HB5 ⊢
  have d0 := cell_of_row W5 q 0 _ _ _ HR2.out
  have d1 := cell_of_row W5 q 1 _ _ _ HR2.out
  have d2 := cell_of_row W5 q 2 _ _ _ HR2.out
  have d3 := cell_of_row W5 q 3 _ _ _ HR2.out
  refine bodyPost_ret (v := .tuple #[.agg #[.string (bs (wordC n)), .int .i64 (namesC n), .int .i64 (takeC n), .int .i64 (giveC n)], .bool true]) ?_ rfl ⟨rfl, HB5.out⟩
  rw [results_cell_tmp rfl]
  simp at d0 d1 d2 d3
  simp [asAddr, Result.andThen, go_sem, d0, d1, d2, d3]
/-- A step as a value. -/
abbrev opV (c : Int) (key : List UInt8) (k : Int) (x : UInt64) (s : List UInt8) : Value := .agg #[.int .i64 c, .string (bs key), .int .i64 k, .float .f64 (fb x), .string (bs s)]
def formB (names : Int) (key : List UInt8) (k : Int) (x : UInt64) (s : List UInt8) : Bool := (if names = 1 then keyB key else key.isEmpty) && (if names = 2 then mayB k x s else (mayB k x s && decide (k = 0)))
theorem may0B (k : Int) (x : UInt64) (s : List UInt8) : (mayB k x s && decide (k = 0)) = (decide (k = 0) && (s.isEmpty && (x == 0))) := by
  by_cases h : k = 0
  · subst h
    unfold mayB
    simp [Bool.and_comm]
  · simp [h]
set_option maxHeartbeats 2000000 in
theorem form_any (c : Int) (key : List UInt8) (k : Int) (x : UInt64) (s : List UInt8) (names : Int) (w : World) :
    Calls Tryz.prog 37 #[opV c key k x s, .int .i64 names] w fun e w' => e = .returned (.bool (formB names key k x s)) ∧ Below w.heap.size w w' := by
  have HK : Hid (∀ W, Calls Tryz.prog 67 #[.string (bs key)] W fun e w' => e = .returned (.bool (keyB key)) ∧ w' = W) := fun W => key_any key W
  have HM : Hid (∀ W, Calls Tryz.prog 69 #[VA k x s] W fun e w' => e = .returned (.bool (mayB k x s)) ∧ Below W.heap.size W w') := fun W => may_any k x s W
  have HV : Hid (formB names key k x s = ((if names = 1 then keyB key else key.isEmpty) && (if names = 2 then mayB k x s else (decide (k = 0) && (s.isEmpty && (x == 0)))))) := by show _ = _; unfold formB; rw [may0B]
  have hba : Below w.heap.size w (w.alloc (.cells #[.int .i64 c, .string (bs key), .int .i64 k, .float .f64 (fb x), .string (bs s)] 59)) := (Below.refl _ _).alloc (Nat.le_refl _) _
  have HBA := Lib.hid hba
  have hx0 := z_eq x
  unfold VA at HM
  clear hba
  by_cases h1 : names = 1
  · subst h1
    cases hkb : keyB key with
    | false =>
      have hv : formB 1 key k x s = false := by rw [HV.out, hkb]; rfl
      rw [hkb] at HK
      rw [hv]
      clear hv hkb HV hx0
      go_enter Tryz.func37, Tryz.ntmps37
      go_wp2_with (go_at_call 67; ((with_reducible refine (HK.out _).mono ?_); rintro e w' ⟨rfl, rfl⟩))
      go_ret
      exact ⟨rfl, HBA.out⟩
    | true =>
      have hv : formB 1 key k x s = (decide (k = 0) && (s.isEmpty && (x == 0))) := by rw [HV.out, hkb]; rfl
      rw [hkb] at HK
      rw [hv]
      clear hv hkb HV
      cases hk0 : (k == 0) with
      | false =>
        have hk : decide (k = 0) = false := by simpa using hk0
        rw [hk]
        clear hk hx0
        go_enter Tryz.func37, Tryz.ntmps37
        go_wp2_with (go_at_call 67; ((with_reducible refine (HK.out _).mono ?_); rintro e w' ⟨rfl, rfl⟩))
        go_ret
        exact ⟨rfl, HBA.out⟩
      | true =>
        obtain rfl : k = 0 := by simpa using hk0
        clear hk0
        cases hs : s.isEmpty <;> cases hz : (x == 0)
        all_goals
          rw [hz] at hx0
          clear hz
          go_enter Tryz.func37, Tryz.ntmps37
          go_wp2_with (go_at_call 67; ((with_reducible refine (HK.out _).mono ?_); rintro e w' ⟨rfl, rfl⟩))
          go_ret
          exact ⟨rfl, HBA.out⟩
  · have hn1 : (names == 1) = false := by simpa using h1
    cases hke : key.isEmpty with
    | false =>
      have hv : formB names key k x s = false := by rw [HV.out, if_neg h1, hke]; rfl
      rw [hv]
      clear hv HV hx0
      go_enter Tryz.func37, Tryz.ntmps37
      go_wp2_with fail
      go_ret
      exact ⟨rfl, HBA.out⟩
    | true =>
      have hv : formB names key k x s = (if names = 2 then mayB k x s else (decide (k = 0) && (s.isEmpty && (x == 0)))) := by rw [HV.out, if_neg h1, hke, Bool.true_and]
      rw [hv]
      clear hv HV
      by_cases h2 : names = 2
      · subst h2
        rw [if_pos rfl]
        clear hx0
        go_enter Tryz.func37, Tryz.ntmps37
        go_wp2_with (go_at_call 69; ((with_reducible refine (HM.out _).mono ?_); rintro e w' ⟨rfl, hb⟩; have HB := Lib.hid hb; clear hb))
        go_ret
        exact ⟨rfl, next_below' HBA.out HB.out⟩
      · have hn2 : (names == 2) = false := by simpa using h2
        rw [if_neg h2]
        cases hk0 : (k == 0) with
        | false =>
          have hk : decide (k = 0) = false := by simpa using hk0
          rw [hk]
          clear hk hx0
          go_enter Tryz.func37, Tryz.ntmps37
          go_wp2_with fail
          go_ret
          exact ⟨rfl, HBA.out⟩
        | true =>
          obtain rfl : k = 0 := by simpa using hk0
          clear hk0
          cases hs : s.isEmpty <;> cases hz : (x == 0)
          all_goals
            rw [hz] at hx0
            clear hz
            go_enter Tryz.func37, Tryz.ntmps37
            go_wp2_with fail
            go_ret
            exact ⟨rfl, HBA.out⟩
end Go.Proofs.YtalpbphfmelhhaaGreatDoor

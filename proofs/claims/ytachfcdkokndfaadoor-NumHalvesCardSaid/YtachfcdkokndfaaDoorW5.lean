/-
  The walk of the law NumHalves. Written by a program (e9.py).
-/
import Derived.Test.YtachfcdkokndfaaDoorW4
import Derived.Test.YtachfcdkokndfaaDoorL8
namespace Go.Proofs.YtachfcdkokndfaaDoor
open Go.RowKit Go.Shelf Go.Sort
set_option maxRecDepth 100000 in
set_option maxHeartbeats 2000000 in
theorem numHalves_0t (x y A M S X Y L G : UInt64) (lg : Int)  (hne : (n64 Y == n64 X) = false) (w : World) (hT : Laid w)
    (Hxy : Hid (∀ W, Calls Tryd.prog 38 #[.float .f64 (fb x), .float .f64 (fb y)] W fun e w' => e = .returned (.float .f64 (fb A)) ∧ ∃ nd, w' = W.drewN nd))
    (Hyx : Hid (∀ W, Calls Tryd.prog 38 #[.float .f64 (fb y), .float .f64 (fb x)] W fun e w' => e = .returned (.float .f64 (fb A)) ∧ ∃ nd, w' = W.drewN nd))
    (Mxy : Hid (∀ W, Calls Tryd.prog 41 #[.float .f64 (fb x), .float .f64 (fb y)] W fun e w' => e = .returned (.float .f64 (fb M)) ∧ ∃ nd, w' = W.drewN nd))
    (Myx : Hid (∀ W, Calls Tryd.prog 41 #[.float .f64 (fb y), .float .f64 (fb x)] W fun e w' => e = .returned (.float .f64 (fb M)) ∧ ∃ nd, w' = W.drewN nd))
    (Sxx : Hid (∀ W, Calls Tryd.prog 40 #[.float .f64 (fb x), .float .f64 (fb x)] W fun e w' => e = .returned (.float .f64 (fb S)) ∧ ∃ nd, w' = W.drewN nd))
    (M1 : Hid (∀ W, Calls Tryd.prog 41 #[.float .f64 (fb x), .float .f64 4607182418800017408] W fun e w' => e = .returned (.float .f64 (fb X)) ∧ ∃ nd, w' = W.drewN nd))
    (D1 : Hid (∀ W, Calls Tryd.prog 42 #[.float .f64 (fb x), .float .f64 4607182418800017408] W fun e w' => e = .returned (.float .f64 (fb X)) ∧ ∃ nd, w' = W.drewN nd))
    (BA : Hid (∀ W, Calls Tryd.prog 26 #[.float .f64 (fb A)] W fun e w' => e = .returned (.int .u64 (n64 (canon A))) ∧ w' = W))
    (BM : Hid (∀ W, Calls Tryd.prog 26 #[.float .f64 (fb M)] W fun e w' => e = .returned (.int .u64 (n64 (canon M))) ∧ w' = W))
    (BS : Hid (∀ W, Calls Tryd.prog 26 #[.float .f64 (fb S)] W fun e w' => e = .returned (.int .u64 (n64 (canon S))) ∧ w' = W))
    (KS : Hid (∀ W, Calls Tryd.prog 21 #[.float .f64 (fb S)] W fun e w' => e = .returned (.int .i64 0) ∧ w' = W))
    (Bx : Hid (∀ W, Calls Tryd.prog 26 #[.float .f64 (fb x)] W fun e w' => e = .returned (.int .u64 (n64 X)) ∧ w' = W))
    (By : Hid (∀ W, Calls Tryd.prog 26 #[.float .f64 (fb y)] W fun e w' => e = .returned (.int .u64 (n64 Y)) ∧ w' = W))
    (BL : Hid (∀ W, Calls Tryd.prog 26 #[.float .f64 (fb L)] W fun e w' => e = .returned (.int .u64 (n64 Y)) ∧ w' = W))
    (BG : Hid (∀ W, Calls Tryd.prog 26 #[.float .f64 (fb G)] W fun e w' => e = .returned (.int .u64 (n64 X)) ∧ w' = W))
    (BC : Hid (∀ W, Calls Tryd.prog 26 #[.float .f64 (fb X)] W fun e w' => e = .returned (.int .u64 (n64 X)) ∧ w' = W))
    (HL : Hid (∀ W, Calls Tryd.prog 36 #[.float .f64 (fb x), .float .f64 (fb y)] W fun e w' => e = .returned (.float .f64 (fb L)) ∧ w' = W))
    (HG : Hid (∀ W, Calls Tryd.prog 37 #[.float .f64 (fb x), .float .f64 (fb y)] W fun e w' => e = .returned (.float .f64 (fb G)) ∧ w' = W))
    (HLG : Hid (∀ W, Calls Tryd.prog 33 #[.float .f64 (fb L), .float .f64 (fb G)] W fun e w' => e = .returned (.int .i64 lg) ∧ w' = W)) (hlg : decide (lg ≤ 0) = true)
    (HK : Hid (∀ W, Calls Tryd.prog 21 #[.float .f64 (fb x)] W fun e w' => e = .returned (.int .i64 0) ∧ w' = W)) :
    Calls Tryd.prog 14 #[.float .f64 (fb x), .float .f64 (fb y)] w fun e w' => e = .returned (.bool true) ∧ Below w.heap.size w w' := by
  go_enter Tryd.func14, Tryd.ntmps14
  go_wp2_with fail
  go_at_call 15
  refine (first_any _ hT).mono ?_
  rintro e w1 ⟨rfl, hb1⟩
  go_wp2_with (first | (go_at_call 38; ((with_reducible refine (Hxy.out _).mono ?_); rintro e w' ⟨rfl, ndHxy, rfl⟩)) | (go_at_call 38; ((with_reducible refine (Hyx.out _).mono ?_); rintro e w' ⟨rfl, ndHyx, rfl⟩)) | (go_at_call 41; ((with_reducible refine (Mxy.out _).mono ?_); rintro e w' ⟨rfl, ndMxy, rfl⟩)) | (go_at_call 41; ((with_reducible refine (Myx.out _).mono ?_); rintro e w' ⟨rfl, ndMyx, rfl⟩)) | (go_at_call 40; ((with_reducible refine (Sxx.out _).mono ?_); rintro e w' ⟨rfl, ndSxx, rfl⟩)) | (go_at_call 41; ((with_reducible refine (M1.out _).mono ?_); rintro e w' ⟨rfl, ndM1, rfl⟩)) | (go_at_call 42; ((with_reducible refine (D1.out _).mono ?_); rintro e w' ⟨rfl, ndD1, rfl⟩)) | (go_at_call 26; ((with_reducible refine (BA.out _).mono ?_); rintro e w' ⟨rfl, rfl⟩)) | (go_at_call 26; ((with_reducible refine (BM.out _).mono ?_); rintro e w' ⟨rfl, rfl⟩)) | (go_at_call 26; ((with_reducible refine (BS.out _).mono ?_); rintro e w' ⟨rfl, rfl⟩)) | (go_at_call 26; ((with_reducible refine (Bx.out _).mono ?_); rintro e w' ⟨rfl, rfl⟩)) | (go_at_call 26; ((with_reducible refine (By.out _).mono ?_); rintro e w' ⟨rfl, rfl⟩)) | (go_at_call 26; ((with_reducible refine (BL.out _).mono ?_); rintro e w' ⟨rfl, rfl⟩)) | (go_at_call 26; ((with_reducible refine (BG.out _).mono ?_); rintro e w' ⟨rfl, rfl⟩)) | (go_at_call 26; ((with_reducible refine (BC.out _).mono ?_); rintro e w' ⟨rfl, rfl⟩)) | (go_at_call 36; ((with_reducible refine (HL.out _).mono ?_); rintro e w' ⟨rfl, rfl⟩)) | (go_at_call 37; ((with_reducible refine (HG.out _).mono ?_); rintro e w' ⟨rfl, rfl⟩)) | (go_at_call 33; ((with_reducible refine (HLG.out _).mono ?_); rintro e w' ⟨rfl, rfl⟩)) | (go_at_call 21; ((with_reducible refine (HK.out _).mono ?_); rintro e w' ⟨rfl, rfl⟩)) | (go_at_call 21; ((with_reducible refine (KS.out _).mono ?_); rintro e w' ⟨rfl, rfl⟩)))
  go_at_call 15
  refine (first_any _ (hT.below (below_drewN hb1 _))).mono ?_
  rintro e w2 ⟨rfl, hb2⟩
  have hb3 : Below w.heap.size w w2 := (below_drewN hb1 _).trans (hb2.mono hb1.size)
  clear hb1 hb2
  go_wp2_with (first | (go_at_call 38; ((with_reducible refine (Hxy.out _).mono ?_); rintro e w' ⟨rfl, ndHxy, rfl⟩)) | (go_at_call 38; ((with_reducible refine (Hyx.out _).mono ?_); rintro e w' ⟨rfl, ndHyx, rfl⟩)) | (go_at_call 41; ((with_reducible refine (Mxy.out _).mono ?_); rintro e w' ⟨rfl, ndMxy, rfl⟩)) | (go_at_call 41; ((with_reducible refine (Myx.out _).mono ?_); rintro e w' ⟨rfl, ndMyx, rfl⟩)) | (go_at_call 40; ((with_reducible refine (Sxx.out _).mono ?_); rintro e w' ⟨rfl, ndSxx, rfl⟩)) | (go_at_call 41; ((with_reducible refine (M1.out _).mono ?_); rintro e w' ⟨rfl, ndM1, rfl⟩)) | (go_at_call 42; ((with_reducible refine (D1.out _).mono ?_); rintro e w' ⟨rfl, ndD1, rfl⟩)) | (go_at_call 26; ((with_reducible refine (BA.out _).mono ?_); rintro e w' ⟨rfl, rfl⟩)) | (go_at_call 26; ((with_reducible refine (BM.out _).mono ?_); rintro e w' ⟨rfl, rfl⟩)) | (go_at_call 26; ((with_reducible refine (BS.out _).mono ?_); rintro e w' ⟨rfl, rfl⟩)) | (go_at_call 26; ((with_reducible refine (Bx.out _).mono ?_); rintro e w' ⟨rfl, rfl⟩)) | (go_at_call 26; ((with_reducible refine (By.out _).mono ?_); rintro e w' ⟨rfl, rfl⟩)) | (go_at_call 26; ((with_reducible refine (BL.out _).mono ?_); rintro e w' ⟨rfl, rfl⟩)) | (go_at_call 26; ((with_reducible refine (BG.out _).mono ?_); rintro e w' ⟨rfl, rfl⟩)) | (go_at_call 26; ((with_reducible refine (BC.out _).mono ?_); rintro e w' ⟨rfl, rfl⟩)) | (go_at_call 36; ((with_reducible refine (HL.out _).mono ?_); rintro e w' ⟨rfl, rfl⟩)) | (go_at_call 37; ((with_reducible refine (HG.out _).mono ?_); rintro e w' ⟨rfl, rfl⟩)) | (go_at_call 33; ((with_reducible refine (HLG.out _).mono ?_); rintro e w' ⟨rfl, rfl⟩)) | (go_at_call 21; ((with_reducible refine (HK.out _).mono ?_); rintro e w' ⟨rfl, rfl⟩)) | (go_at_call 21; ((with_reducible refine (KS.out _).mono ?_); rintro e w' ⟨rfl, rfl⟩)))
  go_ret
  exact ⟨rfl, below_drewN hb3 _⟩
set_option maxRecDepth 100000 in
set_option maxHeartbeats 2000000 in
theorem numHalves_0f (x y A M S X Y L G : UInt64) (lg : Int)  (w : World) (hT : Laid w)
    (Hxy : Hid (∀ W, Calls Tryd.prog 38 #[.float .f64 (fb x), .float .f64 (fb y)] W fun e w' => e = .returned (.float .f64 (fb A)) ∧ ∃ nd, w' = W.drewN nd))
    (Hyx : Hid (∀ W, Calls Tryd.prog 38 #[.float .f64 (fb y), .float .f64 (fb x)] W fun e w' => e = .returned (.float .f64 (fb A)) ∧ ∃ nd, w' = W.drewN nd))
    (Mxy : Hid (∀ W, Calls Tryd.prog 41 #[.float .f64 (fb x), .float .f64 (fb y)] W fun e w' => e = .returned (.float .f64 (fb M)) ∧ ∃ nd, w' = W.drewN nd))
    (Myx : Hid (∀ W, Calls Tryd.prog 41 #[.float .f64 (fb y), .float .f64 (fb x)] W fun e w' => e = .returned (.float .f64 (fb M)) ∧ ∃ nd, w' = W.drewN nd))
    (Sxx : Hid (∀ W, Calls Tryd.prog 40 #[.float .f64 (fb x), .float .f64 (fb x)] W fun e w' => e = .returned (.float .f64 (fb S)) ∧ ∃ nd, w' = W.drewN nd))
    (M1 : Hid (∀ W, Calls Tryd.prog 41 #[.float .f64 (fb x), .float .f64 4607182418800017408] W fun e w' => e = .returned (.float .f64 (fb X)) ∧ ∃ nd, w' = W.drewN nd))
    (D1 : Hid (∀ W, Calls Tryd.prog 42 #[.float .f64 (fb x), .float .f64 4607182418800017408] W fun e w' => e = .returned (.float .f64 (fb X)) ∧ ∃ nd, w' = W.drewN nd))
    (BA : Hid (∀ W, Calls Tryd.prog 26 #[.float .f64 (fb A)] W fun e w' => e = .returned (.int .u64 (n64 (canon A))) ∧ w' = W))
    (BM : Hid (∀ W, Calls Tryd.prog 26 #[.float .f64 (fb M)] W fun e w' => e = .returned (.int .u64 (n64 (canon M))) ∧ w' = W))
    (BS : Hid (∀ W, Calls Tryd.prog 26 #[.float .f64 (fb S)] W fun e w' => e = .returned (.int .u64 (n64 (canon S))) ∧ w' = W))
    (KS : Hid (∀ W, Calls Tryd.prog 21 #[.float .f64 (fb S)] W fun e w' => e = .returned (.int .i64 0) ∧ w' = W))
    (Bx : Hid (∀ W, Calls Tryd.prog 26 #[.float .f64 (fb x)] W fun e w' => e = .returned (.int .u64 (n64 X)) ∧ w' = W))
    (By : Hid (∀ W, Calls Tryd.prog 26 #[.float .f64 (fb y)] W fun e w' => e = .returned (.int .u64 (n64 Y)) ∧ w' = W))
    (BL : Hid (∀ W, Calls Tryd.prog 26 #[.float .f64 (fb L)] W fun e w' => e = .returned (.int .u64 (n64 X)) ∧ w' = W))
    (BG : Hid (∀ W, Calls Tryd.prog 26 #[.float .f64 (fb G)] W fun e w' => e = .returned (.int .u64 (n64 Y)) ∧ w' = W))
    (BC : Hid (∀ W, Calls Tryd.prog 26 #[.float .f64 (fb X)] W fun e w' => e = .returned (.int .u64 (n64 X)) ∧ w' = W))
    (HL : Hid (∀ W, Calls Tryd.prog 36 #[.float .f64 (fb x), .float .f64 (fb y)] W fun e w' => e = .returned (.float .f64 (fb L)) ∧ w' = W))
    (HG : Hid (∀ W, Calls Tryd.prog 37 #[.float .f64 (fb x), .float .f64 (fb y)] W fun e w' => e = .returned (.float .f64 (fb G)) ∧ w' = W))
    (HLG : Hid (∀ W, Calls Tryd.prog 33 #[.float .f64 (fb L), .float .f64 (fb G)] W fun e w' => e = .returned (.int .i64 lg) ∧ w' = W)) (hlg : decide (lg ≤ 0) = true)
    (HK : Hid (∀ W, Calls Tryd.prog 21 #[.float .f64 (fb x)] W fun e w' => e = .returned (.int .i64 0) ∧ w' = W)) :
    Calls Tryd.prog 14 #[.float .f64 (fb x), .float .f64 (fb y)] w fun e w' => e = .returned (.bool true) ∧ Below w.heap.size w w' := by
  go_enter Tryd.func14, Tryd.ntmps14
  go_wp2_with fail
  go_at_call 15
  refine (first_any _ hT).mono ?_
  rintro e w1 ⟨rfl, hb1⟩
  go_wp2_with (first | (go_at_call 38; ((with_reducible refine (Hxy.out _).mono ?_); rintro e w' ⟨rfl, ndHxy, rfl⟩)) | (go_at_call 38; ((with_reducible refine (Hyx.out _).mono ?_); rintro e w' ⟨rfl, ndHyx, rfl⟩)) | (go_at_call 41; ((with_reducible refine (Mxy.out _).mono ?_); rintro e w' ⟨rfl, ndMxy, rfl⟩)) | (go_at_call 41; ((with_reducible refine (Myx.out _).mono ?_); rintro e w' ⟨rfl, ndMyx, rfl⟩)) | (go_at_call 40; ((with_reducible refine (Sxx.out _).mono ?_); rintro e w' ⟨rfl, ndSxx, rfl⟩)) | (go_at_call 41; ((with_reducible refine (M1.out _).mono ?_); rintro e w' ⟨rfl, ndM1, rfl⟩)) | (go_at_call 42; ((with_reducible refine (D1.out _).mono ?_); rintro e w' ⟨rfl, ndD1, rfl⟩)) | (go_at_call 26; ((with_reducible refine (BA.out _).mono ?_); rintro e w' ⟨rfl, rfl⟩)) | (go_at_call 26; ((with_reducible refine (BM.out _).mono ?_); rintro e w' ⟨rfl, rfl⟩)) | (go_at_call 26; ((with_reducible refine (BS.out _).mono ?_); rintro e w' ⟨rfl, rfl⟩)) | (go_at_call 26; ((with_reducible refine (Bx.out _).mono ?_); rintro e w' ⟨rfl, rfl⟩)) | (go_at_call 26; ((with_reducible refine (By.out _).mono ?_); rintro e w' ⟨rfl, rfl⟩)) | (go_at_call 26; ((with_reducible refine (BL.out _).mono ?_); rintro e w' ⟨rfl, rfl⟩)) | (go_at_call 26; ((with_reducible refine (BG.out _).mono ?_); rintro e w' ⟨rfl, rfl⟩)) | (go_at_call 26; ((with_reducible refine (BC.out _).mono ?_); rintro e w' ⟨rfl, rfl⟩)) | (go_at_call 36; ((with_reducible refine (HL.out _).mono ?_); rintro e w' ⟨rfl, rfl⟩)) | (go_at_call 37; ((with_reducible refine (HG.out _).mono ?_); rintro e w' ⟨rfl, rfl⟩)) | (go_at_call 33; ((with_reducible refine (HLG.out _).mono ?_); rintro e w' ⟨rfl, rfl⟩)) | (go_at_call 21; ((with_reducible refine (HK.out _).mono ?_); rintro e w' ⟨rfl, rfl⟩)) | (go_at_call 21; ((with_reducible refine (KS.out _).mono ?_); rintro e w' ⟨rfl, rfl⟩)))
  go_at_call 15
  refine (first_any _ (hT.below (below_drewN hb1 _))).mono ?_
  rintro e w2 ⟨rfl, hb2⟩
  have hb3 : Below w.heap.size w w2 := (below_drewN hb1 _).trans (hb2.mono hb1.size)
  clear hb1 hb2
  go_wp2_with (first | (go_at_call 38; ((with_reducible refine (Hxy.out _).mono ?_); rintro e w' ⟨rfl, ndHxy, rfl⟩)) | (go_at_call 38; ((with_reducible refine (Hyx.out _).mono ?_); rintro e w' ⟨rfl, ndHyx, rfl⟩)) | (go_at_call 41; ((with_reducible refine (Mxy.out _).mono ?_); rintro e w' ⟨rfl, ndMxy, rfl⟩)) | (go_at_call 41; ((with_reducible refine (Myx.out _).mono ?_); rintro e w' ⟨rfl, ndMyx, rfl⟩)) | (go_at_call 40; ((with_reducible refine (Sxx.out _).mono ?_); rintro e w' ⟨rfl, ndSxx, rfl⟩)) | (go_at_call 41; ((with_reducible refine (M1.out _).mono ?_); rintro e w' ⟨rfl, ndM1, rfl⟩)) | (go_at_call 42; ((with_reducible refine (D1.out _).mono ?_); rintro e w' ⟨rfl, ndD1, rfl⟩)) | (go_at_call 26; ((with_reducible refine (BA.out _).mono ?_); rintro e w' ⟨rfl, rfl⟩)) | (go_at_call 26; ((with_reducible refine (BM.out _).mono ?_); rintro e w' ⟨rfl, rfl⟩)) | (go_at_call 26; ((with_reducible refine (BS.out _).mono ?_); rintro e w' ⟨rfl, rfl⟩)) | (go_at_call 26; ((with_reducible refine (Bx.out _).mono ?_); rintro e w' ⟨rfl, rfl⟩)) | (go_at_call 26; ((with_reducible refine (By.out _).mono ?_); rintro e w' ⟨rfl, rfl⟩)) | (go_at_call 26; ((with_reducible refine (BL.out _).mono ?_); rintro e w' ⟨rfl, rfl⟩)) | (go_at_call 26; ((with_reducible refine (BG.out _).mono ?_); rintro e w' ⟨rfl, rfl⟩)) | (go_at_call 26; ((with_reducible refine (BC.out _).mono ?_); rintro e w' ⟨rfl, rfl⟩)) | (go_at_call 36; ((with_reducible refine (HL.out _).mono ?_); rintro e w' ⟨rfl, rfl⟩)) | (go_at_call 37; ((with_reducible refine (HG.out _).mono ?_); rintro e w' ⟨rfl, rfl⟩)) | (go_at_call 33; ((with_reducible refine (HLG.out _).mono ?_); rintro e w' ⟨rfl, rfl⟩)) | (go_at_call 21; ((with_reducible refine (HK.out _).mono ?_); rintro e w' ⟨rfl, rfl⟩)) | (go_at_call 21; ((with_reducible refine (KS.out _).mono ?_); rintro e w' ⟨rfl, rfl⟩)))
  go_ret
  exact ⟨rfl, below_drewN hb3 _⟩
set_option maxRecDepth 100000 in
set_option maxHeartbeats 2000000 in
theorem numHalves_1t (x y A M S X Y L G : UInt64) (lg : Int)  (hne : (n64 Y == n64 X) = false) (w : World) (hT : Laid w)
    (Hxy : Hid (∀ W, Calls Tryd.prog 38 #[.float .f64 (fb x), .float .f64 (fb y)] W fun e w' => e = .returned (.float .f64 (fb A)) ∧ ∃ nd, w' = W.drewN nd))
    (Hyx : Hid (∀ W, Calls Tryd.prog 38 #[.float .f64 (fb y), .float .f64 (fb x)] W fun e w' => e = .returned (.float .f64 (fb A)) ∧ ∃ nd, w' = W.drewN nd))
    (Mxy : Hid (∀ W, Calls Tryd.prog 41 #[.float .f64 (fb x), .float .f64 (fb y)] W fun e w' => e = .returned (.float .f64 (fb M)) ∧ ∃ nd, w' = W.drewN nd))
    (Myx : Hid (∀ W, Calls Tryd.prog 41 #[.float .f64 (fb y), .float .f64 (fb x)] W fun e w' => e = .returned (.float .f64 (fb M)) ∧ ∃ nd, w' = W.drewN nd))
    (Sxx : Hid (∀ W, Calls Tryd.prog 40 #[.float .f64 (fb x), .float .f64 (fb x)] W fun e w' => e = .returned (.float .f64 (fb S)) ∧ ∃ nd, w' = W.drewN nd))
    (M1 : Hid (∀ W, Calls Tryd.prog 41 #[.float .f64 (fb x), .float .f64 4607182418800017408] W fun e w' => e = .returned (.float .f64 (fb X)) ∧ ∃ nd, w' = W.drewN nd))
    (D1 : Hid (∀ W, Calls Tryd.prog 42 #[.float .f64 (fb x), .float .f64 4607182418800017408] W fun e w' => e = .returned (.float .f64 (fb X)) ∧ ∃ nd, w' = W.drewN nd))
    (BA : Hid (∀ W, Calls Tryd.prog 26 #[.float .f64 (fb A)] W fun e w' => e = .returned (.int .u64 (n64 (canon A))) ∧ w' = W))
    (BM : Hid (∀ W, Calls Tryd.prog 26 #[.float .f64 (fb M)] W fun e w' => e = .returned (.int .u64 (n64 (canon M))) ∧ w' = W))
    (BS : Hid (∀ W, Calls Tryd.prog 26 #[.float .f64 (fb S)] W fun e w' => e = .returned (.int .u64 (n64 (canon S))) ∧ w' = W))
    (KS : Hid (∀ W, Calls Tryd.prog 21 #[.float .f64 (fb S)] W fun e w' => e = .returned (.int .i64 0) ∧ w' = W))
    (Bx : Hid (∀ W, Calls Tryd.prog 26 #[.float .f64 (fb x)] W fun e w' => e = .returned (.int .u64 (n64 X)) ∧ w' = W))
    (By : Hid (∀ W, Calls Tryd.prog 26 #[.float .f64 (fb y)] W fun e w' => e = .returned (.int .u64 (n64 Y)) ∧ w' = W))
    (BL : Hid (∀ W, Calls Tryd.prog 26 #[.float .f64 (fb L)] W fun e w' => e = .returned (.int .u64 (n64 Y)) ∧ w' = W))
    (BG : Hid (∀ W, Calls Tryd.prog 26 #[.float .f64 (fb G)] W fun e w' => e = .returned (.int .u64 (n64 X)) ∧ w' = W))
    (BC : Hid (∀ W, Calls Tryd.prog 26 #[.float .f64 (fb X)] W fun e w' => e = .returned (.int .u64 (n64 X)) ∧ w' = W))
    (HL : Hid (∀ W, Calls Tryd.prog 36 #[.float .f64 (fb x), .float .f64 (fb y)] W fun e w' => e = .returned (.float .f64 (fb L)) ∧ w' = W))
    (HG : Hid (∀ W, Calls Tryd.prog 37 #[.float .f64 (fb x), .float .f64 (fb y)] W fun e w' => e = .returned (.float .f64 (fb G)) ∧ w' = W))
    (HLG : Hid (∀ W, Calls Tryd.prog 33 #[.float .f64 (fb L), .float .f64 (fb G)] W fun e w' => e = .returned (.int .i64 lg) ∧ w' = W)) (hlg : decide (lg ≤ 0) = true)
    (HK : Hid (∀ W, Calls Tryd.prog 21 #[.float .f64 (fb x)] W fun e w' => e = .returned (.int .i64 1) ∧ w' = W)) :
    Calls Tryd.prog 14 #[.float .f64 (fb x), .float .f64 (fb y)] w fun e w' => e = .returned (.bool true) ∧ Below w.heap.size w w' := by
  go_enter Tryd.func14, Tryd.ntmps14
  go_wp2_with fail
  go_at_call 15
  refine (first_any _ hT).mono ?_
  rintro e w1 ⟨rfl, hb1⟩
  go_wp2_with (first | (go_at_call 38; ((with_reducible refine (Hxy.out _).mono ?_); rintro e w' ⟨rfl, ndHxy, rfl⟩)) | (go_at_call 38; ((with_reducible refine (Hyx.out _).mono ?_); rintro e w' ⟨rfl, ndHyx, rfl⟩)) | (go_at_call 41; ((with_reducible refine (Mxy.out _).mono ?_); rintro e w' ⟨rfl, ndMxy, rfl⟩)) | (go_at_call 41; ((with_reducible refine (Myx.out _).mono ?_); rintro e w' ⟨rfl, ndMyx, rfl⟩)) | (go_at_call 40; ((with_reducible refine (Sxx.out _).mono ?_); rintro e w' ⟨rfl, ndSxx, rfl⟩)) | (go_at_call 41; ((with_reducible refine (M1.out _).mono ?_); rintro e w' ⟨rfl, ndM1, rfl⟩)) | (go_at_call 42; ((with_reducible refine (D1.out _).mono ?_); rintro e w' ⟨rfl, ndD1, rfl⟩)) | (go_at_call 26; ((with_reducible refine (BA.out _).mono ?_); rintro e w' ⟨rfl, rfl⟩)) | (go_at_call 26; ((with_reducible refine (BM.out _).mono ?_); rintro e w' ⟨rfl, rfl⟩)) | (go_at_call 26; ((with_reducible refine (BS.out _).mono ?_); rintro e w' ⟨rfl, rfl⟩)) | (go_at_call 26; ((with_reducible refine (Bx.out _).mono ?_); rintro e w' ⟨rfl, rfl⟩)) | (go_at_call 26; ((with_reducible refine (By.out _).mono ?_); rintro e w' ⟨rfl, rfl⟩)) | (go_at_call 26; ((with_reducible refine (BL.out _).mono ?_); rintro e w' ⟨rfl, rfl⟩)) | (go_at_call 26; ((with_reducible refine (BG.out _).mono ?_); rintro e w' ⟨rfl, rfl⟩)) | (go_at_call 26; ((with_reducible refine (BC.out _).mono ?_); rintro e w' ⟨rfl, rfl⟩)) | (go_at_call 36; ((with_reducible refine (HL.out _).mono ?_); rintro e w' ⟨rfl, rfl⟩)) | (go_at_call 37; ((with_reducible refine (HG.out _).mono ?_); rintro e w' ⟨rfl, rfl⟩)) | (go_at_call 33; ((with_reducible refine (HLG.out _).mono ?_); rintro e w' ⟨rfl, rfl⟩)) | (go_at_call 21; ((with_reducible refine (HK.out _).mono ?_); rintro e w' ⟨rfl, rfl⟩)) | (go_at_call 21; ((with_reducible refine (KS.out _).mono ?_); rintro e w' ⟨rfl, rfl⟩)))
  go_at_call 15
  refine (first_any _ (hT.below (below_drewN hb1 _))).mono ?_
  rintro e w2 ⟨rfl, hb2⟩
  have hb3 : Below w.heap.size w w2 := (below_drewN hb1 _).trans (hb2.mono hb1.size)
  clear hb1 hb2
  go_wp2_with (first | (go_at_call 38; ((with_reducible refine (Hxy.out _).mono ?_); rintro e w' ⟨rfl, ndHxy, rfl⟩)) | (go_at_call 38; ((with_reducible refine (Hyx.out _).mono ?_); rintro e w' ⟨rfl, ndHyx, rfl⟩)) | (go_at_call 41; ((with_reducible refine (Mxy.out _).mono ?_); rintro e w' ⟨rfl, ndMxy, rfl⟩)) | (go_at_call 41; ((with_reducible refine (Myx.out _).mono ?_); rintro e w' ⟨rfl, ndMyx, rfl⟩)) | (go_at_call 40; ((with_reducible refine (Sxx.out _).mono ?_); rintro e w' ⟨rfl, ndSxx, rfl⟩)) | (go_at_call 41; ((with_reducible refine (M1.out _).mono ?_); rintro e w' ⟨rfl, ndM1, rfl⟩)) | (go_at_call 42; ((with_reducible refine (D1.out _).mono ?_); rintro e w' ⟨rfl, ndD1, rfl⟩)) | (go_at_call 26; ((with_reducible refine (BA.out _).mono ?_); rintro e w' ⟨rfl, rfl⟩)) | (go_at_call 26; ((with_reducible refine (BM.out _).mono ?_); rintro e w' ⟨rfl, rfl⟩)) | (go_at_call 26; ((with_reducible refine (BS.out _).mono ?_); rintro e w' ⟨rfl, rfl⟩)) | (go_at_call 26; ((with_reducible refine (Bx.out _).mono ?_); rintro e w' ⟨rfl, rfl⟩)) | (go_at_call 26; ((with_reducible refine (By.out _).mono ?_); rintro e w' ⟨rfl, rfl⟩)) | (go_at_call 26; ((with_reducible refine (BL.out _).mono ?_); rintro e w' ⟨rfl, rfl⟩)) | (go_at_call 26; ((with_reducible refine (BG.out _).mono ?_); rintro e w' ⟨rfl, rfl⟩)) | (go_at_call 26; ((with_reducible refine (BC.out _).mono ?_); rintro e w' ⟨rfl, rfl⟩)) | (go_at_call 36; ((with_reducible refine (HL.out _).mono ?_); rintro e w' ⟨rfl, rfl⟩)) | (go_at_call 37; ((with_reducible refine (HG.out _).mono ?_); rintro e w' ⟨rfl, rfl⟩)) | (go_at_call 33; ((with_reducible refine (HLG.out _).mono ?_); rintro e w' ⟨rfl, rfl⟩)) | (go_at_call 21; ((with_reducible refine (HK.out _).mono ?_); rintro e w' ⟨rfl, rfl⟩)) | (go_at_call 21; ((with_reducible refine (KS.out _).mono ?_); rintro e w' ⟨rfl, rfl⟩)))
  go_ret
  exact ⟨rfl, below_drewN hb3 _⟩
set_option maxRecDepth 100000 in
set_option maxHeartbeats 2000000 in
theorem numHalves_1f (x y A M S X Y L G : UInt64) (lg : Int)  (w : World) (hT : Laid w)
    (Hxy : Hid (∀ W, Calls Tryd.prog 38 #[.float .f64 (fb x), .float .f64 (fb y)] W fun e w' => e = .returned (.float .f64 (fb A)) ∧ ∃ nd, w' = W.drewN nd))
    (Hyx : Hid (∀ W, Calls Tryd.prog 38 #[.float .f64 (fb y), .float .f64 (fb x)] W fun e w' => e = .returned (.float .f64 (fb A)) ∧ ∃ nd, w' = W.drewN nd))
    (Mxy : Hid (∀ W, Calls Tryd.prog 41 #[.float .f64 (fb x), .float .f64 (fb y)] W fun e w' => e = .returned (.float .f64 (fb M)) ∧ ∃ nd, w' = W.drewN nd))
    (Myx : Hid (∀ W, Calls Tryd.prog 41 #[.float .f64 (fb y), .float .f64 (fb x)] W fun e w' => e = .returned (.float .f64 (fb M)) ∧ ∃ nd, w' = W.drewN nd))
    (Sxx : Hid (∀ W, Calls Tryd.prog 40 #[.float .f64 (fb x), .float .f64 (fb x)] W fun e w' => e = .returned (.float .f64 (fb S)) ∧ ∃ nd, w' = W.drewN nd))
    (M1 : Hid (∀ W, Calls Tryd.prog 41 #[.float .f64 (fb x), .float .f64 4607182418800017408] W fun e w' => e = .returned (.float .f64 (fb X)) ∧ ∃ nd, w' = W.drewN nd))
    (D1 : Hid (∀ W, Calls Tryd.prog 42 #[.float .f64 (fb x), .float .f64 4607182418800017408] W fun e w' => e = .returned (.float .f64 (fb X)) ∧ ∃ nd, w' = W.drewN nd))
    (BA : Hid (∀ W, Calls Tryd.prog 26 #[.float .f64 (fb A)] W fun e w' => e = .returned (.int .u64 (n64 (canon A))) ∧ w' = W))
    (BM : Hid (∀ W, Calls Tryd.prog 26 #[.float .f64 (fb M)] W fun e w' => e = .returned (.int .u64 (n64 (canon M))) ∧ w' = W))
    (BS : Hid (∀ W, Calls Tryd.prog 26 #[.float .f64 (fb S)] W fun e w' => e = .returned (.int .u64 (n64 (canon S))) ∧ w' = W))
    (KS : Hid (∀ W, Calls Tryd.prog 21 #[.float .f64 (fb S)] W fun e w' => e = .returned (.int .i64 0) ∧ w' = W))
    (Bx : Hid (∀ W, Calls Tryd.prog 26 #[.float .f64 (fb x)] W fun e w' => e = .returned (.int .u64 (n64 X)) ∧ w' = W))
    (By : Hid (∀ W, Calls Tryd.prog 26 #[.float .f64 (fb y)] W fun e w' => e = .returned (.int .u64 (n64 Y)) ∧ w' = W))
    (BL : Hid (∀ W, Calls Tryd.prog 26 #[.float .f64 (fb L)] W fun e w' => e = .returned (.int .u64 (n64 X)) ∧ w' = W))
    (BG : Hid (∀ W, Calls Tryd.prog 26 #[.float .f64 (fb G)] W fun e w' => e = .returned (.int .u64 (n64 Y)) ∧ w' = W))
    (BC : Hid (∀ W, Calls Tryd.prog 26 #[.float .f64 (fb X)] W fun e w' => e = .returned (.int .u64 (n64 X)) ∧ w' = W))
    (HL : Hid (∀ W, Calls Tryd.prog 36 #[.float .f64 (fb x), .float .f64 (fb y)] W fun e w' => e = .returned (.float .f64 (fb L)) ∧ w' = W))
    (HG : Hid (∀ W, Calls Tryd.prog 37 #[.float .f64 (fb x), .float .f64 (fb y)] W fun e w' => e = .returned (.float .f64 (fb G)) ∧ w' = W))
    (HLG : Hid (∀ W, Calls Tryd.prog 33 #[.float .f64 (fb L), .float .f64 (fb G)] W fun e w' => e = .returned (.int .i64 lg) ∧ w' = W)) (hlg : decide (lg ≤ 0) = true)
    (HK : Hid (∀ W, Calls Tryd.prog 21 #[.float .f64 (fb x)] W fun e w' => e = .returned (.int .i64 1) ∧ w' = W)) :
    Calls Tryd.prog 14 #[.float .f64 (fb x), .float .f64 (fb y)] w fun e w' => e = .returned (.bool true) ∧ Below w.heap.size w w' := by
  go_enter Tryd.func14, Tryd.ntmps14
  go_wp2_with fail
  go_at_call 15
  refine (first_any _ hT).mono ?_
  rintro e w1 ⟨rfl, hb1⟩
  go_wp2_with (first | (go_at_call 38; ((with_reducible refine (Hxy.out _).mono ?_); rintro e w' ⟨rfl, ndHxy, rfl⟩)) | (go_at_call 38; ((with_reducible refine (Hyx.out _).mono ?_); rintro e w' ⟨rfl, ndHyx, rfl⟩)) | (go_at_call 41; ((with_reducible refine (Mxy.out _).mono ?_); rintro e w' ⟨rfl, ndMxy, rfl⟩)) | (go_at_call 41; ((with_reducible refine (Myx.out _).mono ?_); rintro e w' ⟨rfl, ndMyx, rfl⟩)) | (go_at_call 40; ((with_reducible refine (Sxx.out _).mono ?_); rintro e w' ⟨rfl, ndSxx, rfl⟩)) | (go_at_call 41; ((with_reducible refine (M1.out _).mono ?_); rintro e w' ⟨rfl, ndM1, rfl⟩)) | (go_at_call 42; ((with_reducible refine (D1.out _).mono ?_); rintro e w' ⟨rfl, ndD1, rfl⟩)) | (go_at_call 26; ((with_reducible refine (BA.out _).mono ?_); rintro e w' ⟨rfl, rfl⟩)) | (go_at_call 26; ((with_reducible refine (BM.out _).mono ?_); rintro e w' ⟨rfl, rfl⟩)) | (go_at_call 26; ((with_reducible refine (BS.out _).mono ?_); rintro e w' ⟨rfl, rfl⟩)) | (go_at_call 26; ((with_reducible refine (Bx.out _).mono ?_); rintro e w' ⟨rfl, rfl⟩)) | (go_at_call 26; ((with_reducible refine (By.out _).mono ?_); rintro e w' ⟨rfl, rfl⟩)) | (go_at_call 26; ((with_reducible refine (BL.out _).mono ?_); rintro e w' ⟨rfl, rfl⟩)) | (go_at_call 26; ((with_reducible refine (BG.out _).mono ?_); rintro e w' ⟨rfl, rfl⟩)) | (go_at_call 26; ((with_reducible refine (BC.out _).mono ?_); rintro e w' ⟨rfl, rfl⟩)) | (go_at_call 36; ((with_reducible refine (HL.out _).mono ?_); rintro e w' ⟨rfl, rfl⟩)) | (go_at_call 37; ((with_reducible refine (HG.out _).mono ?_); rintro e w' ⟨rfl, rfl⟩)) | (go_at_call 33; ((with_reducible refine (HLG.out _).mono ?_); rintro e w' ⟨rfl, rfl⟩)) | (go_at_call 21; ((with_reducible refine (HK.out _).mono ?_); rintro e w' ⟨rfl, rfl⟩)) | (go_at_call 21; ((with_reducible refine (KS.out _).mono ?_); rintro e w' ⟨rfl, rfl⟩)))
  go_at_call 15
  refine (first_any _ (hT.below (below_drewN hb1 _))).mono ?_
  rintro e w2 ⟨rfl, hb2⟩
  have hb3 : Below w.heap.size w w2 := (below_drewN hb1 _).trans (hb2.mono hb1.size)
  clear hb1 hb2
  go_wp2_with (first | (go_at_call 38; ((with_reducible refine (Hxy.out _).mono ?_); rintro e w' ⟨rfl, ndHxy, rfl⟩)) | (go_at_call 38; ((with_reducible refine (Hyx.out _).mono ?_); rintro e w' ⟨rfl, ndHyx, rfl⟩)) | (go_at_call 41; ((with_reducible refine (Mxy.out _).mono ?_); rintro e w' ⟨rfl, ndMxy, rfl⟩)) | (go_at_call 41; ((with_reducible refine (Myx.out _).mono ?_); rintro e w' ⟨rfl, ndMyx, rfl⟩)) | (go_at_call 40; ((with_reducible refine (Sxx.out _).mono ?_); rintro e w' ⟨rfl, ndSxx, rfl⟩)) | (go_at_call 41; ((with_reducible refine (M1.out _).mono ?_); rintro e w' ⟨rfl, ndM1, rfl⟩)) | (go_at_call 42; ((with_reducible refine (D1.out _).mono ?_); rintro e w' ⟨rfl, ndD1, rfl⟩)) | (go_at_call 26; ((with_reducible refine (BA.out _).mono ?_); rintro e w' ⟨rfl, rfl⟩)) | (go_at_call 26; ((with_reducible refine (BM.out _).mono ?_); rintro e w' ⟨rfl, rfl⟩)) | (go_at_call 26; ((with_reducible refine (BS.out _).mono ?_); rintro e w' ⟨rfl, rfl⟩)) | (go_at_call 26; ((with_reducible refine (Bx.out _).mono ?_); rintro e w' ⟨rfl, rfl⟩)) | (go_at_call 26; ((with_reducible refine (By.out _).mono ?_); rintro e w' ⟨rfl, rfl⟩)) | (go_at_call 26; ((with_reducible refine (BL.out _).mono ?_); rintro e w' ⟨rfl, rfl⟩)) | (go_at_call 26; ((with_reducible refine (BG.out _).mono ?_); rintro e w' ⟨rfl, rfl⟩)) | (go_at_call 26; ((with_reducible refine (BC.out _).mono ?_); rintro e w' ⟨rfl, rfl⟩)) | (go_at_call 36; ((with_reducible refine (HL.out _).mono ?_); rintro e w' ⟨rfl, rfl⟩)) | (go_at_call 37; ((with_reducible refine (HG.out _).mono ?_); rintro e w' ⟨rfl, rfl⟩)) | (go_at_call 33; ((with_reducible refine (HLG.out _).mono ?_); rintro e w' ⟨rfl, rfl⟩)) | (go_at_call 21; ((with_reducible refine (HK.out _).mono ?_); rintro e w' ⟨rfl, rfl⟩)) | (go_at_call 21; ((with_reducible refine (KS.out _).mono ?_); rintro e w' ⟨rfl, rfl⟩)))
  go_ret
  exact ⟨rfl, below_drewN hb3 _⟩
set_option maxRecDepth 100000 in
set_option maxHeartbeats 2000000 in
theorem numHalves_8t (x y A M S X Y L G : UInt64) (lg : Int)  (hne : (n64 Y == n64 X) = false) (w : World) (hT : Laid w)
    (Hxy : Hid (∀ W, Calls Tryd.prog 38 #[.float .f64 (fb x), .float .f64 (fb y)] W fun e w' => e = .returned (.float .f64 (fb A)) ∧ ∃ nd, w' = W.drewN nd))
    (Hyx : Hid (∀ W, Calls Tryd.prog 38 #[.float .f64 (fb y), .float .f64 (fb x)] W fun e w' => e = .returned (.float .f64 (fb A)) ∧ ∃ nd, w' = W.drewN nd))
    (Mxy : Hid (∀ W, Calls Tryd.prog 41 #[.float .f64 (fb x), .float .f64 (fb y)] W fun e w' => e = .returned (.float .f64 (fb M)) ∧ ∃ nd, w' = W.drewN nd))
    (Myx : Hid (∀ W, Calls Tryd.prog 41 #[.float .f64 (fb y), .float .f64 (fb x)] W fun e w' => e = .returned (.float .f64 (fb M)) ∧ ∃ nd, w' = W.drewN nd))
    (Sxx : Hid (∀ W, Calls Tryd.prog 40 #[.float .f64 (fb x), .float .f64 (fb x)] W fun e w' => e = .returned (.float .f64 (fb S)) ∧ ∃ nd, w' = W.drewN nd))
    (M1 : Hid (∀ W, Calls Tryd.prog 41 #[.float .f64 (fb x), .float .f64 4607182418800017408] W fun e w' => e = .returned (.float .f64 (fb X)) ∧ ∃ nd, w' = W.drewN nd))
    (D1 : Hid (∀ W, Calls Tryd.prog 42 #[.float .f64 (fb x), .float .f64 4607182418800017408] W fun e w' => e = .returned (.float .f64 (fb X)) ∧ ∃ nd, w' = W.drewN nd))
    (BA : Hid (∀ W, Calls Tryd.prog 26 #[.float .f64 (fb A)] W fun e w' => e = .returned (.int .u64 (n64 (canon A))) ∧ w' = W))
    (BM : Hid (∀ W, Calls Tryd.prog 26 #[.float .f64 (fb M)] W fun e w' => e = .returned (.int .u64 (n64 (canon M))) ∧ w' = W))
    (BS : Hid (∀ W, Calls Tryd.prog 26 #[.float .f64 (fb S)] W fun e w' => e = .returned (.int .u64 (n64 (canon S))) ∧ w' = W))
    (KS : Hid (∀ W, Calls Tryd.prog 21 #[.float .f64 (fb S)] W fun e w' => e = .returned (.int .i64 0) ∧ w' = W))
    (Bx : Hid (∀ W, Calls Tryd.prog 26 #[.float .f64 (fb x)] W fun e w' => e = .returned (.int .u64 (n64 X)) ∧ w' = W))
    (By : Hid (∀ W, Calls Tryd.prog 26 #[.float .f64 (fb y)] W fun e w' => e = .returned (.int .u64 (n64 Y)) ∧ w' = W))
    (BL : Hid (∀ W, Calls Tryd.prog 26 #[.float .f64 (fb L)] W fun e w' => e = .returned (.int .u64 (n64 Y)) ∧ w' = W))
    (BG : Hid (∀ W, Calls Tryd.prog 26 #[.float .f64 (fb G)] W fun e w' => e = .returned (.int .u64 (n64 X)) ∧ w' = W))
    (BC : Hid (∀ W, Calls Tryd.prog 26 #[.float .f64 (fb X)] W fun e w' => e = .returned (.int .u64 (n64 X)) ∧ w' = W))
    (HL : Hid (∀ W, Calls Tryd.prog 36 #[.float .f64 (fb x), .float .f64 (fb y)] W fun e w' => e = .returned (.float .f64 (fb L)) ∧ w' = W))
    (HG : Hid (∀ W, Calls Tryd.prog 37 #[.float .f64 (fb x), .float .f64 (fb y)] W fun e w' => e = .returned (.float .f64 (fb G)) ∧ w' = W))
    (HLG : Hid (∀ W, Calls Tryd.prog 33 #[.float .f64 (fb L), .float .f64 (fb G)] W fun e w' => e = .returned (.int .i64 lg) ∧ w' = W)) (hlg : decide (lg ≤ 0) = true)
    (HK : Hid (∀ W, Calls Tryd.prog 21 #[.float .f64 (fb x)] W fun e w' => e = .returned (.int .i64 8) ∧ w' = W)) :
    Calls Tryd.prog 14 #[.float .f64 (fb x), .float .f64 (fb y)] w fun e w' => e = .returned (.bool true) ∧ Below w.heap.size w w' := by
  go_enter Tryd.func14, Tryd.ntmps14
  go_wp2_with fail
  go_at_call 15
  refine (first_any _ hT).mono ?_
  rintro e w1 ⟨rfl, hb1⟩
  go_wp2_with (first | (go_at_call 38; ((with_reducible refine (Hxy.out _).mono ?_); rintro e w' ⟨rfl, ndHxy, rfl⟩)) | (go_at_call 38; ((with_reducible refine (Hyx.out _).mono ?_); rintro e w' ⟨rfl, ndHyx, rfl⟩)) | (go_at_call 41; ((with_reducible refine (Mxy.out _).mono ?_); rintro e w' ⟨rfl, ndMxy, rfl⟩)) | (go_at_call 41; ((with_reducible refine (Myx.out _).mono ?_); rintro e w' ⟨rfl, ndMyx, rfl⟩)) | (go_at_call 40; ((with_reducible refine (Sxx.out _).mono ?_); rintro e w' ⟨rfl, ndSxx, rfl⟩)) | (go_at_call 41; ((with_reducible refine (M1.out _).mono ?_); rintro e w' ⟨rfl, ndM1, rfl⟩)) | (go_at_call 42; ((with_reducible refine (D1.out _).mono ?_); rintro e w' ⟨rfl, ndD1, rfl⟩)) | (go_at_call 26; ((with_reducible refine (BA.out _).mono ?_); rintro e w' ⟨rfl, rfl⟩)) | (go_at_call 26; ((with_reducible refine (BM.out _).mono ?_); rintro e w' ⟨rfl, rfl⟩)) | (go_at_call 26; ((with_reducible refine (BS.out _).mono ?_); rintro e w' ⟨rfl, rfl⟩)) | (go_at_call 26; ((with_reducible refine (Bx.out _).mono ?_); rintro e w' ⟨rfl, rfl⟩)) | (go_at_call 26; ((with_reducible refine (By.out _).mono ?_); rintro e w' ⟨rfl, rfl⟩)) | (go_at_call 26; ((with_reducible refine (BL.out _).mono ?_); rintro e w' ⟨rfl, rfl⟩)) | (go_at_call 26; ((with_reducible refine (BG.out _).mono ?_); rintro e w' ⟨rfl, rfl⟩)) | (go_at_call 26; ((with_reducible refine (BC.out _).mono ?_); rintro e w' ⟨rfl, rfl⟩)) | (go_at_call 36; ((with_reducible refine (HL.out _).mono ?_); rintro e w' ⟨rfl, rfl⟩)) | (go_at_call 37; ((with_reducible refine (HG.out _).mono ?_); rintro e w' ⟨rfl, rfl⟩)) | (go_at_call 33; ((with_reducible refine (HLG.out _).mono ?_); rintro e w' ⟨rfl, rfl⟩)) | (go_at_call 21; ((with_reducible refine (HK.out _).mono ?_); rintro e w' ⟨rfl, rfl⟩)) | (go_at_call 21; ((with_reducible refine (KS.out _).mono ?_); rintro e w' ⟨rfl, rfl⟩)))
  go_at_call 15
  refine (first_any _ (hT.below (below_drewN hb1 _))).mono ?_
  rintro e w2 ⟨rfl, hb2⟩
  have hb3 : Below w.heap.size w w2 := (below_drewN hb1 _).trans (hb2.mono hb1.size)
  clear hb1 hb2
  go_wp2_with (first | (go_at_call 38; ((with_reducible refine (Hxy.out _).mono ?_); rintro e w' ⟨rfl, ndHxy, rfl⟩)) | (go_at_call 38; ((with_reducible refine (Hyx.out _).mono ?_); rintro e w' ⟨rfl, ndHyx, rfl⟩)) | (go_at_call 41; ((with_reducible refine (Mxy.out _).mono ?_); rintro e w' ⟨rfl, ndMxy, rfl⟩)) | (go_at_call 41; ((with_reducible refine (Myx.out _).mono ?_); rintro e w' ⟨rfl, ndMyx, rfl⟩)) | (go_at_call 40; ((with_reducible refine (Sxx.out _).mono ?_); rintro e w' ⟨rfl, ndSxx, rfl⟩)) | (go_at_call 41; ((with_reducible refine (M1.out _).mono ?_); rintro e w' ⟨rfl, ndM1, rfl⟩)) | (go_at_call 42; ((with_reducible refine (D1.out _).mono ?_); rintro e w' ⟨rfl, ndD1, rfl⟩)) | (go_at_call 26; ((with_reducible refine (BA.out _).mono ?_); rintro e w' ⟨rfl, rfl⟩)) | (go_at_call 26; ((with_reducible refine (BM.out _).mono ?_); rintro e w' ⟨rfl, rfl⟩)) | (go_at_call 26; ((with_reducible refine (BS.out _).mono ?_); rintro e w' ⟨rfl, rfl⟩)) | (go_at_call 26; ((with_reducible refine (Bx.out _).mono ?_); rintro e w' ⟨rfl, rfl⟩)) | (go_at_call 26; ((with_reducible refine (By.out _).mono ?_); rintro e w' ⟨rfl, rfl⟩)) | (go_at_call 26; ((with_reducible refine (BL.out _).mono ?_); rintro e w' ⟨rfl, rfl⟩)) | (go_at_call 26; ((with_reducible refine (BG.out _).mono ?_); rintro e w' ⟨rfl, rfl⟩)) | (go_at_call 26; ((with_reducible refine (BC.out _).mono ?_); rintro e w' ⟨rfl, rfl⟩)) | (go_at_call 36; ((with_reducible refine (HL.out _).mono ?_); rintro e w' ⟨rfl, rfl⟩)) | (go_at_call 37; ((with_reducible refine (HG.out _).mono ?_); rintro e w' ⟨rfl, rfl⟩)) | (go_at_call 33; ((with_reducible refine (HLG.out _).mono ?_); rintro e w' ⟨rfl, rfl⟩)) | (go_at_call 21; ((with_reducible refine (HK.out _).mono ?_); rintro e w' ⟨rfl, rfl⟩)) | (go_at_call 21; ((with_reducible refine (KS.out _).mono ?_); rintro e w' ⟨rfl, rfl⟩)))
  go_ret
  exact ⟨rfl, below_drewN hb3 _⟩
set_option maxRecDepth 100000 in
set_option maxHeartbeats 2000000 in
theorem numHalves_8f (x y A M S X Y L G : UInt64) (lg : Int)  (w : World) (hT : Laid w)
    (Hxy : Hid (∀ W, Calls Tryd.prog 38 #[.float .f64 (fb x), .float .f64 (fb y)] W fun e w' => e = .returned (.float .f64 (fb A)) ∧ ∃ nd, w' = W.drewN nd))
    (Hyx : Hid (∀ W, Calls Tryd.prog 38 #[.float .f64 (fb y), .float .f64 (fb x)] W fun e w' => e = .returned (.float .f64 (fb A)) ∧ ∃ nd, w' = W.drewN nd))
    (Mxy : Hid (∀ W, Calls Tryd.prog 41 #[.float .f64 (fb x), .float .f64 (fb y)] W fun e w' => e = .returned (.float .f64 (fb M)) ∧ ∃ nd, w' = W.drewN nd))
    (Myx : Hid (∀ W, Calls Tryd.prog 41 #[.float .f64 (fb y), .float .f64 (fb x)] W fun e w' => e = .returned (.float .f64 (fb M)) ∧ ∃ nd, w' = W.drewN nd))
    (Sxx : Hid (∀ W, Calls Tryd.prog 40 #[.float .f64 (fb x), .float .f64 (fb x)] W fun e w' => e = .returned (.float .f64 (fb S)) ∧ ∃ nd, w' = W.drewN nd))
    (M1 : Hid (∀ W, Calls Tryd.prog 41 #[.float .f64 (fb x), .float .f64 4607182418800017408] W fun e w' => e = .returned (.float .f64 (fb X)) ∧ ∃ nd, w' = W.drewN nd))
    (D1 : Hid (∀ W, Calls Tryd.prog 42 #[.float .f64 (fb x), .float .f64 4607182418800017408] W fun e w' => e = .returned (.float .f64 (fb X)) ∧ ∃ nd, w' = W.drewN nd))
    (BA : Hid (∀ W, Calls Tryd.prog 26 #[.float .f64 (fb A)] W fun e w' => e = .returned (.int .u64 (n64 (canon A))) ∧ w' = W))
    (BM : Hid (∀ W, Calls Tryd.prog 26 #[.float .f64 (fb M)] W fun e w' => e = .returned (.int .u64 (n64 (canon M))) ∧ w' = W))
    (BS : Hid (∀ W, Calls Tryd.prog 26 #[.float .f64 (fb S)] W fun e w' => e = .returned (.int .u64 (n64 (canon S))) ∧ w' = W))
    (KS : Hid (∀ W, Calls Tryd.prog 21 #[.float .f64 (fb S)] W fun e w' => e = .returned (.int .i64 0) ∧ w' = W))
    (Bx : Hid (∀ W, Calls Tryd.prog 26 #[.float .f64 (fb x)] W fun e w' => e = .returned (.int .u64 (n64 X)) ∧ w' = W))
    (By : Hid (∀ W, Calls Tryd.prog 26 #[.float .f64 (fb y)] W fun e w' => e = .returned (.int .u64 (n64 Y)) ∧ w' = W))
    (BL : Hid (∀ W, Calls Tryd.prog 26 #[.float .f64 (fb L)] W fun e w' => e = .returned (.int .u64 (n64 X)) ∧ w' = W))
    (BG : Hid (∀ W, Calls Tryd.prog 26 #[.float .f64 (fb G)] W fun e w' => e = .returned (.int .u64 (n64 Y)) ∧ w' = W))
    (BC : Hid (∀ W, Calls Tryd.prog 26 #[.float .f64 (fb X)] W fun e w' => e = .returned (.int .u64 (n64 X)) ∧ w' = W))
    (HL : Hid (∀ W, Calls Tryd.prog 36 #[.float .f64 (fb x), .float .f64 (fb y)] W fun e w' => e = .returned (.float .f64 (fb L)) ∧ w' = W))
    (HG : Hid (∀ W, Calls Tryd.prog 37 #[.float .f64 (fb x), .float .f64 (fb y)] W fun e w' => e = .returned (.float .f64 (fb G)) ∧ w' = W))
    (HLG : Hid (∀ W, Calls Tryd.prog 33 #[.float .f64 (fb L), .float .f64 (fb G)] W fun e w' => e = .returned (.int .i64 lg) ∧ w' = W)) (hlg : decide (lg ≤ 0) = true)
    (HK : Hid (∀ W, Calls Tryd.prog 21 #[.float .f64 (fb x)] W fun e w' => e = .returned (.int .i64 8) ∧ w' = W)) :
    Calls Tryd.prog 14 #[.float .f64 (fb x), .float .f64 (fb y)] w fun e w' => e = .returned (.bool true) ∧ Below w.heap.size w w' := by
  go_enter Tryd.func14, Tryd.ntmps14
  go_wp2_with fail
  go_at_call 15
  refine (first_any _ hT).mono ?_
  rintro e w1 ⟨rfl, hb1⟩
  go_wp2_with (first | (go_at_call 38; ((with_reducible refine (Hxy.out _).mono ?_); rintro e w' ⟨rfl, ndHxy, rfl⟩)) | (go_at_call 38; ((with_reducible refine (Hyx.out _).mono ?_); rintro e w' ⟨rfl, ndHyx, rfl⟩)) | (go_at_call 41; ((with_reducible refine (Mxy.out _).mono ?_); rintro e w' ⟨rfl, ndMxy, rfl⟩)) | (go_at_call 41; ((with_reducible refine (Myx.out _).mono ?_); rintro e w' ⟨rfl, ndMyx, rfl⟩)) | (go_at_call 40; ((with_reducible refine (Sxx.out _).mono ?_); rintro e w' ⟨rfl, ndSxx, rfl⟩)) | (go_at_call 41; ((with_reducible refine (M1.out _).mono ?_); rintro e w' ⟨rfl, ndM1, rfl⟩)) | (go_at_call 42; ((with_reducible refine (D1.out _).mono ?_); rintro e w' ⟨rfl, ndD1, rfl⟩)) | (go_at_call 26; ((with_reducible refine (BA.out _).mono ?_); rintro e w' ⟨rfl, rfl⟩)) | (go_at_call 26; ((with_reducible refine (BM.out _).mono ?_); rintro e w' ⟨rfl, rfl⟩)) | (go_at_call 26; ((with_reducible refine (BS.out _).mono ?_); rintro e w' ⟨rfl, rfl⟩)) | (go_at_call 26; ((with_reducible refine (Bx.out _).mono ?_); rintro e w' ⟨rfl, rfl⟩)) | (go_at_call 26; ((with_reducible refine (By.out _).mono ?_); rintro e w' ⟨rfl, rfl⟩)) | (go_at_call 26; ((with_reducible refine (BL.out _).mono ?_); rintro e w' ⟨rfl, rfl⟩)) | (go_at_call 26; ((with_reducible refine (BG.out _).mono ?_); rintro e w' ⟨rfl, rfl⟩)) | (go_at_call 26; ((with_reducible refine (BC.out _).mono ?_); rintro e w' ⟨rfl, rfl⟩)) | (go_at_call 36; ((with_reducible refine (HL.out _).mono ?_); rintro e w' ⟨rfl, rfl⟩)) | (go_at_call 37; ((with_reducible refine (HG.out _).mono ?_); rintro e w' ⟨rfl, rfl⟩)) | (go_at_call 33; ((with_reducible refine (HLG.out _).mono ?_); rintro e w' ⟨rfl, rfl⟩)) | (go_at_call 21; ((with_reducible refine (HK.out _).mono ?_); rintro e w' ⟨rfl, rfl⟩)) | (go_at_call 21; ((with_reducible refine (KS.out _).mono ?_); rintro e w' ⟨rfl, rfl⟩)))
  go_at_call 15
  refine (first_any _ (hT.below (below_drewN hb1 _))).mono ?_
  rintro e w2 ⟨rfl, hb2⟩
  have hb3 : Below w.heap.size w w2 := (below_drewN hb1 _).trans (hb2.mono hb1.size)
  clear hb1 hb2
  go_wp2_with (first | (go_at_call 38; ((with_reducible refine (Hxy.out _).mono ?_); rintro e w' ⟨rfl, ndHxy, rfl⟩)) | (go_at_call 38; ((with_reducible refine (Hyx.out _).mono ?_); rintro e w' ⟨rfl, ndHyx, rfl⟩)) | (go_at_call 41; ((with_reducible refine (Mxy.out _).mono ?_); rintro e w' ⟨rfl, ndMxy, rfl⟩)) | (go_at_call 41; ((with_reducible refine (Myx.out _).mono ?_); rintro e w' ⟨rfl, ndMyx, rfl⟩)) | (go_at_call 40; ((with_reducible refine (Sxx.out _).mono ?_); rintro e w' ⟨rfl, ndSxx, rfl⟩)) | (go_at_call 41; ((with_reducible refine (M1.out _).mono ?_); rintro e w' ⟨rfl, ndM1, rfl⟩)) | (go_at_call 42; ((with_reducible refine (D1.out _).mono ?_); rintro e w' ⟨rfl, ndD1, rfl⟩)) | (go_at_call 26; ((with_reducible refine (BA.out _).mono ?_); rintro e w' ⟨rfl, rfl⟩)) | (go_at_call 26; ((with_reducible refine (BM.out _).mono ?_); rintro e w' ⟨rfl, rfl⟩)) | (go_at_call 26; ((with_reducible refine (BS.out _).mono ?_); rintro e w' ⟨rfl, rfl⟩)) | (go_at_call 26; ((with_reducible refine (Bx.out _).mono ?_); rintro e w' ⟨rfl, rfl⟩)) | (go_at_call 26; ((with_reducible refine (By.out _).mono ?_); rintro e w' ⟨rfl, rfl⟩)) | (go_at_call 26; ((with_reducible refine (BL.out _).mono ?_); rintro e w' ⟨rfl, rfl⟩)) | (go_at_call 26; ((with_reducible refine (BG.out _).mono ?_); rintro e w' ⟨rfl, rfl⟩)) | (go_at_call 26; ((with_reducible refine (BC.out _).mono ?_); rintro e w' ⟨rfl, rfl⟩)) | (go_at_call 36; ((with_reducible refine (HL.out _).mono ?_); rintro e w' ⟨rfl, rfl⟩)) | (go_at_call 37; ((with_reducible refine (HG.out _).mono ?_); rintro e w' ⟨rfl, rfl⟩)) | (go_at_call 33; ((with_reducible refine (HLG.out _).mono ?_); rintro e w' ⟨rfl, rfl⟩)) | (go_at_call 21; ((with_reducible refine (HK.out _).mono ?_); rintro e w' ⟨rfl, rfl⟩)) | (go_at_call 21; ((with_reducible refine (KS.out _).mono ?_); rintro e w' ⟨rfl, rfl⟩)))
  go_ret
  exact ⟨rfl, below_drewN hb3 _⟩
set_option maxRecDepth 100000 in
set_option maxHeartbeats 2000000 in
theorem numHalves_nt (x y A M S X Y L G : UInt64) (lg : Int) (c : Int) (k0 : (c == 0) = false) (k1 : (c == 1) = false) (k8 : (c == 8) = false) (hne : (n64 Y == n64 X) = false) (w : World) (hT : Laid w)
    (Hxy : Hid (∀ W, Calls Tryd.prog 38 #[.float .f64 (fb x), .float .f64 (fb y)] W fun e w' => e = .returned (.float .f64 (fb A)) ∧ ∃ nd, w' = W.drewN nd))
    (Hyx : Hid (∀ W, Calls Tryd.prog 38 #[.float .f64 (fb y), .float .f64 (fb x)] W fun e w' => e = .returned (.float .f64 (fb A)) ∧ ∃ nd, w' = W.drewN nd))
    (Mxy : Hid (∀ W, Calls Tryd.prog 41 #[.float .f64 (fb x), .float .f64 (fb y)] W fun e w' => e = .returned (.float .f64 (fb M)) ∧ ∃ nd, w' = W.drewN nd))
    (Myx : Hid (∀ W, Calls Tryd.prog 41 #[.float .f64 (fb y), .float .f64 (fb x)] W fun e w' => e = .returned (.float .f64 (fb M)) ∧ ∃ nd, w' = W.drewN nd))
    (Sxx : Hid (∀ W, Calls Tryd.prog 40 #[.float .f64 (fb x), .float .f64 (fb x)] W fun e w' => e = .returned (.float .f64 (fb S)) ∧ ∃ nd, w' = W.drewN nd))
    (M1 : Hid (∀ W, Calls Tryd.prog 41 #[.float .f64 (fb x), .float .f64 4607182418800017408] W fun e w' => e = .returned (.float .f64 (fb X)) ∧ ∃ nd, w' = W.drewN nd))
    (D1 : Hid (∀ W, Calls Tryd.prog 42 #[.float .f64 (fb x), .float .f64 4607182418800017408] W fun e w' => e = .returned (.float .f64 (fb X)) ∧ ∃ nd, w' = W.drewN nd))
    (BA : Hid (∀ W, Calls Tryd.prog 26 #[.float .f64 (fb A)] W fun e w' => e = .returned (.int .u64 (n64 (canon A))) ∧ w' = W))
    (BM : Hid (∀ W, Calls Tryd.prog 26 #[.float .f64 (fb M)] W fun e w' => e = .returned (.int .u64 (n64 (canon M))) ∧ w' = W))
    (BS : Hid (∀ W, Calls Tryd.prog 26 #[.float .f64 (fb S)] W fun e w' => e = .returned (.int .u64 0) ∧ w' = W))
    (Bx : Hid (∀ W, Calls Tryd.prog 26 #[.float .f64 (fb x)] W fun e w' => e = .returned (.int .u64 (n64 X)) ∧ w' = W))
    (By : Hid (∀ W, Calls Tryd.prog 26 #[.float .f64 (fb y)] W fun e w' => e = .returned (.int .u64 (n64 Y)) ∧ w' = W))
    (BL : Hid (∀ W, Calls Tryd.prog 26 #[.float .f64 (fb L)] W fun e w' => e = .returned (.int .u64 (n64 Y)) ∧ w' = W))
    (BG : Hid (∀ W, Calls Tryd.prog 26 #[.float .f64 (fb G)] W fun e w' => e = .returned (.int .u64 (n64 X)) ∧ w' = W))
    (BC : Hid (∀ W, Calls Tryd.prog 26 #[.float .f64 (fb X)] W fun e w' => e = .returned (.int .u64 (n64 X)) ∧ w' = W))
    (HL : Hid (∀ W, Calls Tryd.prog 36 #[.float .f64 (fb x), .float .f64 (fb y)] W fun e w' => e = .returned (.float .f64 (fb L)) ∧ w' = W))
    (HG : Hid (∀ W, Calls Tryd.prog 37 #[.float .f64 (fb x), .float .f64 (fb y)] W fun e w' => e = .returned (.float .f64 (fb G)) ∧ w' = W))
    (HLG : Hid (∀ W, Calls Tryd.prog 33 #[.float .f64 (fb L), .float .f64 (fb G)] W fun e w' => e = .returned (.int .i64 lg) ∧ w' = W)) (hlg : decide (lg ≤ 0) = true)
    (HK : Hid (∀ W, Calls Tryd.prog 21 #[.float .f64 (fb x)] W fun e w' => e = .returned (.int .i64 c) ∧ w' = W)) :
    Calls Tryd.prog 14 #[.float .f64 (fb x), .float .f64 (fb y)] w fun e w' => e = .returned (.bool true) ∧ Below w.heap.size w w' := by
  go_enter Tryd.func14, Tryd.ntmps14
  go_wp2_with fail
  go_at_call 15
  refine (first_any _ hT).mono ?_
  rintro e w1 ⟨rfl, hb1⟩
  go_wp2_with (first | (go_at_call 38; ((with_reducible refine (Hxy.out _).mono ?_); rintro e w' ⟨rfl, ndHxy, rfl⟩)) | (go_at_call 38; ((with_reducible refine (Hyx.out _).mono ?_); rintro e w' ⟨rfl, ndHyx, rfl⟩)) | (go_at_call 41; ((with_reducible refine (Mxy.out _).mono ?_); rintro e w' ⟨rfl, ndMxy, rfl⟩)) | (go_at_call 41; ((with_reducible refine (Myx.out _).mono ?_); rintro e w' ⟨rfl, ndMyx, rfl⟩)) | (go_at_call 40; ((with_reducible refine (Sxx.out _).mono ?_); rintro e w' ⟨rfl, ndSxx, rfl⟩)) | (go_at_call 41; ((with_reducible refine (M1.out _).mono ?_); rintro e w' ⟨rfl, ndM1, rfl⟩)) | (go_at_call 42; ((with_reducible refine (D1.out _).mono ?_); rintro e w' ⟨rfl, ndD1, rfl⟩)) | (go_at_call 26; ((with_reducible refine (BA.out _).mono ?_); rintro e w' ⟨rfl, rfl⟩)) | (go_at_call 26; ((with_reducible refine (BM.out _).mono ?_); rintro e w' ⟨rfl, rfl⟩)) | (go_at_call 26; ((with_reducible refine (BS.out _).mono ?_); rintro e w' ⟨rfl, rfl⟩)) | (go_at_call 26; ((with_reducible refine (Bx.out _).mono ?_); rintro e w' ⟨rfl, rfl⟩)) | (go_at_call 26; ((with_reducible refine (By.out _).mono ?_); rintro e w' ⟨rfl, rfl⟩)) | (go_at_call 26; ((with_reducible refine (BL.out _).mono ?_); rintro e w' ⟨rfl, rfl⟩)) | (go_at_call 26; ((with_reducible refine (BG.out _).mono ?_); rintro e w' ⟨rfl, rfl⟩)) | (go_at_call 26; ((with_reducible refine (BC.out _).mono ?_); rintro e w' ⟨rfl, rfl⟩)) | (go_at_call 36; ((with_reducible refine (HL.out _).mono ?_); rintro e w' ⟨rfl, rfl⟩)) | (go_at_call 37; ((with_reducible refine (HG.out _).mono ?_); rintro e w' ⟨rfl, rfl⟩)) | (go_at_call 33; ((with_reducible refine (HLG.out _).mono ?_); rintro e w' ⟨rfl, rfl⟩)) | (go_at_call 21; ((with_reducible refine (HK.out _).mono ?_); rintro e w' ⟨rfl, rfl⟩)) | (go_at_call 21; ((with_reducible refine (KS.out _).mono ?_); rintro e w' ⟨rfl, rfl⟩)))
  go_at_call 15
  refine (first_any _ (hT.below (below_drewN hb1 _))).mono ?_
  rintro e w2 ⟨rfl, hb2⟩
  have hb3 : Below w.heap.size w w2 := (below_drewN hb1 _).trans (hb2.mono hb1.size)
  clear hb1 hb2
  go_wp2_with (first | (go_at_call 38; ((with_reducible refine (Hxy.out _).mono ?_); rintro e w' ⟨rfl, ndHxy, rfl⟩)) | (go_at_call 38; ((with_reducible refine (Hyx.out _).mono ?_); rintro e w' ⟨rfl, ndHyx, rfl⟩)) | (go_at_call 41; ((with_reducible refine (Mxy.out _).mono ?_); rintro e w' ⟨rfl, ndMxy, rfl⟩)) | (go_at_call 41; ((with_reducible refine (Myx.out _).mono ?_); rintro e w' ⟨rfl, ndMyx, rfl⟩)) | (go_at_call 40; ((with_reducible refine (Sxx.out _).mono ?_); rintro e w' ⟨rfl, ndSxx, rfl⟩)) | (go_at_call 41; ((with_reducible refine (M1.out _).mono ?_); rintro e w' ⟨rfl, ndM1, rfl⟩)) | (go_at_call 42; ((with_reducible refine (D1.out _).mono ?_); rintro e w' ⟨rfl, ndD1, rfl⟩)) | (go_at_call 26; ((with_reducible refine (BA.out _).mono ?_); rintro e w' ⟨rfl, rfl⟩)) | (go_at_call 26; ((with_reducible refine (BM.out _).mono ?_); rintro e w' ⟨rfl, rfl⟩)) | (go_at_call 26; ((with_reducible refine (BS.out _).mono ?_); rintro e w' ⟨rfl, rfl⟩)) | (go_at_call 26; ((with_reducible refine (Bx.out _).mono ?_); rintro e w' ⟨rfl, rfl⟩)) | (go_at_call 26; ((with_reducible refine (By.out _).mono ?_); rintro e w' ⟨rfl, rfl⟩)) | (go_at_call 26; ((with_reducible refine (BL.out _).mono ?_); rintro e w' ⟨rfl, rfl⟩)) | (go_at_call 26; ((with_reducible refine (BG.out _).mono ?_); rintro e w' ⟨rfl, rfl⟩)) | (go_at_call 26; ((with_reducible refine (BC.out _).mono ?_); rintro e w' ⟨rfl, rfl⟩)) | (go_at_call 36; ((with_reducible refine (HL.out _).mono ?_); rintro e w' ⟨rfl, rfl⟩)) | (go_at_call 37; ((with_reducible refine (HG.out _).mono ?_); rintro e w' ⟨rfl, rfl⟩)) | (go_at_call 33; ((with_reducible refine (HLG.out _).mono ?_); rintro e w' ⟨rfl, rfl⟩)) | (go_at_call 21; ((with_reducible refine (HK.out _).mono ?_); rintro e w' ⟨rfl, rfl⟩)) | (go_at_call 21; ((with_reducible refine (KS.out _).mono ?_); rintro e w' ⟨rfl, rfl⟩)))
  go_ret
  exact ⟨rfl, below_drewN hb3 _⟩
set_option maxRecDepth 100000 in
set_option maxHeartbeats 2000000 in
theorem numHalves_nf (x y A M S X Y L G : UInt64) (lg : Int) (c : Int) (k0 : (c == 0) = false) (k1 : (c == 1) = false) (k8 : (c == 8) = false) (w : World) (hT : Laid w)
    (Hxy : Hid (∀ W, Calls Tryd.prog 38 #[.float .f64 (fb x), .float .f64 (fb y)] W fun e w' => e = .returned (.float .f64 (fb A)) ∧ ∃ nd, w' = W.drewN nd))
    (Hyx : Hid (∀ W, Calls Tryd.prog 38 #[.float .f64 (fb y), .float .f64 (fb x)] W fun e w' => e = .returned (.float .f64 (fb A)) ∧ ∃ nd, w' = W.drewN nd))
    (Mxy : Hid (∀ W, Calls Tryd.prog 41 #[.float .f64 (fb x), .float .f64 (fb y)] W fun e w' => e = .returned (.float .f64 (fb M)) ∧ ∃ nd, w' = W.drewN nd))
    (Myx : Hid (∀ W, Calls Tryd.prog 41 #[.float .f64 (fb y), .float .f64 (fb x)] W fun e w' => e = .returned (.float .f64 (fb M)) ∧ ∃ nd, w' = W.drewN nd))
    (Sxx : Hid (∀ W, Calls Tryd.prog 40 #[.float .f64 (fb x), .float .f64 (fb x)] W fun e w' => e = .returned (.float .f64 (fb S)) ∧ ∃ nd, w' = W.drewN nd))
    (M1 : Hid (∀ W, Calls Tryd.prog 41 #[.float .f64 (fb x), .float .f64 4607182418800017408] W fun e w' => e = .returned (.float .f64 (fb X)) ∧ ∃ nd, w' = W.drewN nd))
    (D1 : Hid (∀ W, Calls Tryd.prog 42 #[.float .f64 (fb x), .float .f64 4607182418800017408] W fun e w' => e = .returned (.float .f64 (fb X)) ∧ ∃ nd, w' = W.drewN nd))
    (BA : Hid (∀ W, Calls Tryd.prog 26 #[.float .f64 (fb A)] W fun e w' => e = .returned (.int .u64 (n64 (canon A))) ∧ w' = W))
    (BM : Hid (∀ W, Calls Tryd.prog 26 #[.float .f64 (fb M)] W fun e w' => e = .returned (.int .u64 (n64 (canon M))) ∧ w' = W))
    (BS : Hid (∀ W, Calls Tryd.prog 26 #[.float .f64 (fb S)] W fun e w' => e = .returned (.int .u64 0) ∧ w' = W))
    (Bx : Hid (∀ W, Calls Tryd.prog 26 #[.float .f64 (fb x)] W fun e w' => e = .returned (.int .u64 (n64 X)) ∧ w' = W))
    (By : Hid (∀ W, Calls Tryd.prog 26 #[.float .f64 (fb y)] W fun e w' => e = .returned (.int .u64 (n64 Y)) ∧ w' = W))
    (BL : Hid (∀ W, Calls Tryd.prog 26 #[.float .f64 (fb L)] W fun e w' => e = .returned (.int .u64 (n64 X)) ∧ w' = W))
    (BG : Hid (∀ W, Calls Tryd.prog 26 #[.float .f64 (fb G)] W fun e w' => e = .returned (.int .u64 (n64 Y)) ∧ w' = W))
    (BC : Hid (∀ W, Calls Tryd.prog 26 #[.float .f64 (fb X)] W fun e w' => e = .returned (.int .u64 (n64 X)) ∧ w' = W))
    (HL : Hid (∀ W, Calls Tryd.prog 36 #[.float .f64 (fb x), .float .f64 (fb y)] W fun e w' => e = .returned (.float .f64 (fb L)) ∧ w' = W))
    (HG : Hid (∀ W, Calls Tryd.prog 37 #[.float .f64 (fb x), .float .f64 (fb y)] W fun e w' => e = .returned (.float .f64 (fb G)) ∧ w' = W))
    (HLG : Hid (∀ W, Calls Tryd.prog 33 #[.float .f64 (fb L), .float .f64 (fb G)] W fun e w' => e = .returned (.int .i64 lg) ∧ w' = W)) (hlg : decide (lg ≤ 0) = true)
    (HK : Hid (∀ W, Calls Tryd.prog 21 #[.float .f64 (fb x)] W fun e w' => e = .returned (.int .i64 c) ∧ w' = W)) :
    Calls Tryd.prog 14 #[.float .f64 (fb x), .float .f64 (fb y)] w fun e w' => e = .returned (.bool true) ∧ Below w.heap.size w w' := by
  go_enter Tryd.func14, Tryd.ntmps14
  go_wp2_with fail
  go_at_call 15
  refine (first_any _ hT).mono ?_
  rintro e w1 ⟨rfl, hb1⟩
  go_wp2_with (first | (go_at_call 38; ((with_reducible refine (Hxy.out _).mono ?_); rintro e w' ⟨rfl, ndHxy, rfl⟩)) | (go_at_call 38; ((with_reducible refine (Hyx.out _).mono ?_); rintro e w' ⟨rfl, ndHyx, rfl⟩)) | (go_at_call 41; ((with_reducible refine (Mxy.out _).mono ?_); rintro e w' ⟨rfl, ndMxy, rfl⟩)) | (go_at_call 41; ((with_reducible refine (Myx.out _).mono ?_); rintro e w' ⟨rfl, ndMyx, rfl⟩)) | (go_at_call 40; ((with_reducible refine (Sxx.out _).mono ?_); rintro e w' ⟨rfl, ndSxx, rfl⟩)) | (go_at_call 41; ((with_reducible refine (M1.out _).mono ?_); rintro e w' ⟨rfl, ndM1, rfl⟩)) | (go_at_call 42; ((with_reducible refine (D1.out _).mono ?_); rintro e w' ⟨rfl, ndD1, rfl⟩)) | (go_at_call 26; ((with_reducible refine (BA.out _).mono ?_); rintro e w' ⟨rfl, rfl⟩)) | (go_at_call 26; ((with_reducible refine (BM.out _).mono ?_); rintro e w' ⟨rfl, rfl⟩)) | (go_at_call 26; ((with_reducible refine (BS.out _).mono ?_); rintro e w' ⟨rfl, rfl⟩)) | (go_at_call 26; ((with_reducible refine (Bx.out _).mono ?_); rintro e w' ⟨rfl, rfl⟩)) | (go_at_call 26; ((with_reducible refine (By.out _).mono ?_); rintro e w' ⟨rfl, rfl⟩)) | (go_at_call 26; ((with_reducible refine (BL.out _).mono ?_); rintro e w' ⟨rfl, rfl⟩)) | (go_at_call 26; ((with_reducible refine (BG.out _).mono ?_); rintro e w' ⟨rfl, rfl⟩)) | (go_at_call 26; ((with_reducible refine (BC.out _).mono ?_); rintro e w' ⟨rfl, rfl⟩)) | (go_at_call 36; ((with_reducible refine (HL.out _).mono ?_); rintro e w' ⟨rfl, rfl⟩)) | (go_at_call 37; ((with_reducible refine (HG.out _).mono ?_); rintro e w' ⟨rfl, rfl⟩)) | (go_at_call 33; ((with_reducible refine (HLG.out _).mono ?_); rintro e w' ⟨rfl, rfl⟩)) | (go_at_call 21; ((with_reducible refine (HK.out _).mono ?_); rintro e w' ⟨rfl, rfl⟩)) | (go_at_call 21; ((with_reducible refine (KS.out _).mono ?_); rintro e w' ⟨rfl, rfl⟩)))
  go_at_call 15
  refine (first_any _ (hT.below (below_drewN hb1 _))).mono ?_
  rintro e w2 ⟨rfl, hb2⟩
  have hb3 : Below w.heap.size w w2 := (below_drewN hb1 _).trans (hb2.mono hb1.size)
  clear hb1 hb2
  go_wp2_with (first | (go_at_call 38; ((with_reducible refine (Hxy.out _).mono ?_); rintro e w' ⟨rfl, ndHxy, rfl⟩)) | (go_at_call 38; ((with_reducible refine (Hyx.out _).mono ?_); rintro e w' ⟨rfl, ndHyx, rfl⟩)) | (go_at_call 41; ((with_reducible refine (Mxy.out _).mono ?_); rintro e w' ⟨rfl, ndMxy, rfl⟩)) | (go_at_call 41; ((with_reducible refine (Myx.out _).mono ?_); rintro e w' ⟨rfl, ndMyx, rfl⟩)) | (go_at_call 40; ((with_reducible refine (Sxx.out _).mono ?_); rintro e w' ⟨rfl, ndSxx, rfl⟩)) | (go_at_call 41; ((with_reducible refine (M1.out _).mono ?_); rintro e w' ⟨rfl, ndM1, rfl⟩)) | (go_at_call 42; ((with_reducible refine (D1.out _).mono ?_); rintro e w' ⟨rfl, ndD1, rfl⟩)) | (go_at_call 26; ((with_reducible refine (BA.out _).mono ?_); rintro e w' ⟨rfl, rfl⟩)) | (go_at_call 26; ((with_reducible refine (BM.out _).mono ?_); rintro e w' ⟨rfl, rfl⟩)) | (go_at_call 26; ((with_reducible refine (BS.out _).mono ?_); rintro e w' ⟨rfl, rfl⟩)) | (go_at_call 26; ((with_reducible refine (Bx.out _).mono ?_); rintro e w' ⟨rfl, rfl⟩)) | (go_at_call 26; ((with_reducible refine (By.out _).mono ?_); rintro e w' ⟨rfl, rfl⟩)) | (go_at_call 26; ((with_reducible refine (BL.out _).mono ?_); rintro e w' ⟨rfl, rfl⟩)) | (go_at_call 26; ((with_reducible refine (BG.out _).mono ?_); rintro e w' ⟨rfl, rfl⟩)) | (go_at_call 26; ((with_reducible refine (BC.out _).mono ?_); rintro e w' ⟨rfl, rfl⟩)) | (go_at_call 36; ((with_reducible refine (HL.out _).mono ?_); rintro e w' ⟨rfl, rfl⟩)) | (go_at_call 37; ((with_reducible refine (HG.out _).mono ?_); rintro e w' ⟨rfl, rfl⟩)) | (go_at_call 33; ((with_reducible refine (HLG.out _).mono ?_); rintro e w' ⟨rfl, rfl⟩)) | (go_at_call 21; ((with_reducible refine (HK.out _).mono ?_); rintro e w' ⟨rfl, rfl⟩)) | (go_at_call 21; ((with_reducible refine (KS.out _).mono ?_); rintro e w' ⟨rfl, rfl⟩)))
  go_ret
  exact ⟨rfl, below_drewN hb3 _⟩
end Go.Proofs.YtachfcdkokndfaaDoor

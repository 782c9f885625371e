/-
  Assign, where it may not (made by gen_bad.py).
-/
import Derived.Test.YtcefadbnmpjeiaaL
namespace Go.Proofs.Ytcefadbnmpjeiaa
open Go.RowKit Go.Maps


set_option maxHeartbeats 1000000 in
theorem bad24_1 (s p : Int) (F : Nat) (r q d : Int) (w : World) (H49 : Hid (∀ W, Calls Try.prog 49 #[.int .i64 d] W fun e w' => e = .returned (.tuple #[.agg #[.nilFunc], .bool false]) ∧ Fr (fun _ => False) W w')) :
    Calls Try.prog 24 #[.agg #[.int .i64 s, .int .i64 p], .agg #[.int .u64 (wordM F 0 : Nat), .int .u64 (wordM F 1 : Nat), .int .u64 (wordM F 2 : Nat), .int .u64 (wordM F 3 : Nat), .int .i64 r, .int .i64 q, .int .i64 d]] w fun e w' => e = .returned (.tuple #[.slice none 0 0, .int .i64 1]) ∧ Fr (fun _ => False) w w' := by
  have HB2 := Lib.hid ((((Blk.new w 28 #[.int .i64 s, .int .i64 p]).alloc (.cells #[.int .u64 (wordM F 0 : Nat), .int .u64 (wordM F 1 : Nat), .int .u64 (wordM F 2 : Nat), .int .u64 (wordM F 3 : Nat), .int .i64 r, .int .i64 q, .int .i64 d] 50)).alloc (.cells #[.slice none 0 0] 46)).alloc (.cells #[.int .i64 0] 25))
  have B3 := ((Blk.new (w.alloc (.cells #[.int .i64 s, .int .i64 p] 28)) 50 #[.int .u64 (wordM F 0 : Nat), .int .u64 (wordM F 1 : Nat), .int .u64 (wordM F 2 : Nat), .int .u64 (wordM F 3 : Nat), .int .i64 r, .int .i64 q, .int .i64 d]).alloc (.cells #[.slice none 0 0] 46)).alloc (.cells #[.int .i64 0] 25)
  have B4 := (Blk.new ((w.alloc (.cells #[.int .i64 s, .int .i64 p] 28)).alloc (.cells #[.int .u64 (wordM F 0 : Nat), .int .u64 (wordM F 1 : Nat), .int .u64 (wordM F 2 : Nat), .int .u64 (wordM F 3 : Nat), .int .i64 r, .int .i64 q, .int .i64 d] 50)) 46 #[.slice none 0 0]).alloc (.cells #[.int .i64 0] 25)
  have B5 := Blk.new (((w.alloc (.cells #[.int .i64 s, .int .i64 p] 28)).alloc (.cells #[.int .u64 (wordM F 0 : Nat), .int .u64 (wordM F 1 : Nat), .int .u64 (wordM F 2 : Nat), .int .u64 (wordM F 3 : Nat), .int .i64 r, .int .i64 q, .int .i64 d] 50)).alloc (.cells #[.slice none 0 0] 46)) 25 #[.int .i64 0]
  simp only [World.size_alloc] at B3 B4 B5
  have HB3 := Lib.hid B3
  have HB4 := Lib.hid B4
  have HB5 := Lib.hid B5
  clear B3 B4 B5
  go_enter Try.func24, Try.ntmps24
  have e0 := fun i => HB3.out.cell i
  go_wp2_with fail
  refine (H49.out _).mono ?_
  rintro e w1 ⟨rfl, hf1⟩
  clear e0
  have hR4a := HB4.out.fr hf1 (fun h => h)
  have hR5a := HB5.out.fr hf1 (fun h => h)
  have hFa : Fr (fun _ => False) w w1 := ((((Fr.refl _ w).alloc _).alloc _).alloc _).alloc _ |>.then hf1
  have hza := hR5a.lt
  have hzb := (HB2.out.fr hf1 (fun h => h)).lt
  have x4 := (hR4a.alloc (.cells #[.nilFunc] 87)).cell 0
  have x4' := (hR4a.alloc (.cells #[.nilFunc] 87)).frozen 0
  have x5 := (hR5a.alloc (.cells #[.nilFunc] 87)).cell 0
  have x5' := (hR5a.alloc (.cells #[.nilFunc] 87)).frozen 0
  have y5 := ((hR5a.far (p := ⟨w.heap.size + 1 + 1, 0, none⟩) (by simp) (.slice none 0 0)).alloc (.cells #[.nilFunc] 87)).cell 0
  have y5' := ((hR5a.far (p := ⟨w.heap.size + 1 + 1, 0, none⟩) (by simp) (.slice none 0 0)).alloc (.cells #[.nilFunc] 87)).frozen 0
  have hR4 := hR4a
  have hR5 := hR5a
  have hF := hFa
  clear hR4a hR5a hFa
  have r4 := hR4
  have r5 := hR5
  have p4 := r4.cell 0
  have p4' := r4.frozen 0
  have p5 := r5.cell 0
  have p5' := r5.frozen 0
  have HF := Lib.hid hF
  clear hF r4 r5 hR4 hR5
  go_wp2_with fail
  (try simp only [Exit.inBlock, Exit.then])
  refine bodyPost_ret (v := .tuple #[.slice none 0 0, .int .i64 1]) ?_ rfl ⟨rfl, ?_⟩
  · rw [results_cell_cell rfl]
    go_simp
  · first
      | exact (HF.out.setCell (p := ⟨w.heap.size + 1 + 1, 0, none⟩) (Or.inr (by simp; omega)) _).setCell (p := ⟨w.heap.size + 1 + 1 + 1, 0, none⟩) (Or.inr (by simp; omega)) _
      | exact ((HF.out.setCell (p := ⟨w.heap.size + 1 + 1, 0, none⟩) (Or.inr (by simp; omega)) _).setCell (p := ⟨w.heap.size + 1 + 1 + 1, 0, none⟩) (Or.inr (by simp; omega)) _).alloc _
      | exact ((HF.out.setCell (p := ⟨w.heap.size + 1 + 1, 0, none⟩) (Or.inr (by simp; omega)) _).alloc _).setCell (p := ⟨w.heap.size + 1 + 1 + 1, 0, none⟩) (Or.inr (by simp; omega)) _
      | exact ((HF.out.alloc _).setCell (p := ⟨w.heap.size + 1 + 1, 0, none⟩) (Or.inr (by simp; omega)) _).setCell (p := ⟨w.heap.size + 1 + 1 + 1, 0, none⟩) (Or.inr (by simp; omega)) _


set_option maxHeartbeats 1000000 in
theorem bad24_2 (s p : Int) (F : Nat) (r q d : Int) (w : World) (fi : Nat) (H49 : Hid (∀ W, Calls Try.prog 49 #[.int .i64 d] W fun e w' => e = .returned (.tuple #[.agg #[.func (.func fi) #[] #[]], .bool true]) ∧ Fr (fun _ => False) W w')) (H50 : Hid (∀ W, Calls Try.prog 50 #[.agg #[.int .i64 s, .int .i64 p]] W fun e w' => e = .returned (.bool false) ∧ Fr (fun _ => False) W w')) :
    Calls Try.prog 24 #[.agg #[.int .i64 s, .int .i64 p], .agg #[.int .u64 (wordM F 0 : Nat), .int .u64 (wordM F 1 : Nat), .int .u64 (wordM F 2 : Nat), .int .u64 (wordM F 3 : Nat), .int .i64 r, .int .i64 q, .int .i64 d]] w fun e w' => e = .returned (.tuple #[.slice none 0 0, .int .i64 1]) ∧ Fr (fun _ => False) w w' := by
  have HB2 := Lib.hid ((((Blk.new w 28 #[.int .i64 s, .int .i64 p]).alloc (.cells #[.int .u64 (wordM F 0 : Nat), .int .u64 (wordM F 1 : Nat), .int .u64 (wordM F 2 : Nat), .int .u64 (wordM F 3 : Nat), .int .i64 r, .int .i64 q, .int .i64 d] 50)).alloc (.cells #[.slice none 0 0] 46)).alloc (.cells #[.int .i64 0] 25))
  have B3 := ((Blk.new (w.alloc (.cells #[.int .i64 s, .int .i64 p] 28)) 50 #[.int .u64 (wordM F 0 : Nat), .int .u64 (wordM F 1 : Nat), .int .u64 (wordM F 2 : Nat), .int .u64 (wordM F 3 : Nat), .int .i64 r, .int .i64 q, .int .i64 d]).alloc (.cells #[.slice none 0 0] 46)).alloc (.cells #[.int .i64 0] 25)
  have B4 := (Blk.new ((w.alloc (.cells #[.int .i64 s, .int .i64 p] 28)).alloc (.cells #[.int .u64 (wordM F 0 : Nat), .int .u64 (wordM F 1 : Nat), .int .u64 (wordM F 2 : Nat), .int .u64 (wordM F 3 : Nat), .int .i64 r, .int .i64 q, .int .i64 d] 50)) 46 #[.slice none 0 0]).alloc (.cells #[.int .i64 0] 25)
  have B5 := Blk.new (((w.alloc (.cells #[.int .i64 s, .int .i64 p] 28)).alloc (.cells #[.int .u64 (wordM F 0 : Nat), .int .u64 (wordM F 1 : Nat), .int .u64 (wordM F 2 : Nat), .int .u64 (wordM F 3 : Nat), .int .i64 r, .int .i64 q, .int .i64 d] 50)).alloc (.cells #[.slice none 0 0] 46)) 25 #[.int .i64 0]
  simp only [World.size_alloc] at B3 B4 B5
  have HB3 := Lib.hid B3
  have HB4 := Lib.hid B4
  have HB5 := Lib.hid B5
  clear B3 B4 B5
  go_enter Try.func24, Try.ntmps24
  have e0 := fun i => HB3.out.cell i
  go_wp2_with fail
  refine (H49.out _).mono ?_
  rintro e w1 ⟨rfl, hf1⟩
  clear e0
  have hR4a := HB4.out.fr hf1 (fun h => h)
  have hR5a := HB5.out.fr hf1 (fun h => h)
  have hFa : Fr (fun _ => False) w w1 := ((((Fr.refl _ w).alloc _).alloc _).alloc _).alloc _ |>.then hf1
  have hza := hR5a.lt
  have hzb := (HB2.out.fr hf1 (fun h => h)).lt
  have hB1 := (HB2.out.fr hf1 (fun h => h)).alloc (.cells #[.func (.func fi) #[] #[]] 87)
  have hC1 := (HB3.out.fr hf1 (fun h => h)).alloc (.cells #[.func (.func fi) #[] #[]] 87)
  have e1 := fun i => hB1.cell i
  go_wp2_with fail
  refine (H50.out _).mono ?_
  rintro e w2 ⟨rfl, hf2⟩
  clear e1
  have e2 := fun i => (hC1.fr hf2 (fun h => h)).cell i
  have hR4 := (hR4a.alloc (.cells #[.func (.func fi) #[] #[]] 87)).fr hf2 (fun h => h)
  have hR5 := (hR5a.alloc (.cells #[.func (.func fi) #[] #[]] 87)).fr hf2 (fun h => h)
  have hF := (hFa.alloc (.cells #[.func (.func fi) #[] #[]] 87)).then hf2
  clear hR4a hR5a hFa hB1 hC1
  have r4 := hR4
  have r5 := hR5
  have p4 := r4.cell 0
  have p4' := r4.frozen 0
  have p5 := r5.cell 0
  have p5' := r5.frozen 0
  have HF := Lib.hid hF
  clear hF r4 r5 hR4 hR5
  go_wp2_with fail
  (try simp only [Exit.inBlock, Exit.then])
  refine bodyPost_ret (v := .tuple #[.slice none 0 0, .int .i64 1]) ?_ rfl ⟨rfl, ?_⟩
  · rw [results_cell_cell rfl]
    go_simp
  · first
      | exact (HF.out.setCell (p := ⟨w.heap.size + 1 + 1, 0, none⟩) (Or.inr (by simp; omega)) _).setCell (p := ⟨w.heap.size + 1 + 1 + 1, 0, none⟩) (Or.inr (by simp; omega)) _
      | exact ((HF.out.setCell (p := ⟨w.heap.size + 1 + 1, 0, none⟩) (Or.inr (by simp; omega)) _).setCell (p := ⟨w.heap.size + 1 + 1 + 1, 0, none⟩) (Or.inr (by simp; omega)) _).alloc _
      | exact ((HF.out.setCell (p := ⟨w.heap.size + 1 + 1, 0, none⟩) (Or.inr (by simp; omega)) _).alloc _).setCell (p := ⟨w.heap.size + 1 + 1 + 1, 0, none⟩) (Or.inr (by simp; omega)) _
      | exact ((HF.out.alloc _).setCell (p := ⟨w.heap.size + 1 + 1, 0, none⟩) (Or.inr (by simp; omega)) _).setCell (p := ⟨w.heap.size + 1 + 1 + 1, 0, none⟩) (Or.inr (by simp; omega)) _


set_option maxHeartbeats 1000000 in
theorem bad24_3 (s p : Int) (F : Nat) (r q d : Int) (w : World) (fi : Nat) (H49 : Hid (∀ W, Calls Try.prog 49 #[.int .i64 d] W fun e w' => e = .returned (.tuple #[.agg #[.func (.func fi) #[] #[]], .bool true]) ∧ Fr (fun _ => False) W w')) (H50 : Hid (∀ W, Calls Try.prog 50 #[.agg #[.int .i64 s, .int .i64 p]] W fun e w' => e = .returned (.bool true) ∧ Fr (fun _ => False) W w')) (H54 : Hid (∀ W, Calls Try.prog 54 #[.int .i64 r, .int .i64 1, .int .i64 32] W fun e w' => e = .returned (.bool false) ∧ W = w')) :
    Calls Try.prog 24 #[.agg #[.int .i64 s, .int .i64 p], .agg #[.int .u64 (wordM F 0 : Nat), .int .u64 (wordM F 1 : Nat), .int .u64 (wordM F 2 : Nat), .int .u64 (wordM F 3 : Nat), .int .i64 r, .int .i64 q, .int .i64 d]] w fun e w' => e = .returned (.tuple #[.slice none 0 0, .int .i64 1]) ∧ Fr (fun _ => False) w w' := by
  have HB2 := Lib.hid ((((Blk.new w 28 #[.int .i64 s, .int .i64 p]).alloc (.cells #[.int .u64 (wordM F 0 : Nat), .int .u64 (wordM F 1 : Nat), .int .u64 (wordM F 2 : Nat), .int .u64 (wordM F 3 : Nat), .int .i64 r, .int .i64 q, .int .i64 d] 50)).alloc (.cells #[.slice none 0 0] 46)).alloc (.cells #[.int .i64 0] 25))
  have B3 := ((Blk.new (w.alloc (.cells #[.int .i64 s, .int .i64 p] 28)) 50 #[.int .u64 (wordM F 0 : Nat), .int .u64 (wordM F 1 : Nat), .int .u64 (wordM F 2 : Nat), .int .u64 (wordM F 3 : Nat), .int .i64 r, .int .i64 q, .int .i64 d]).alloc (.cells #[.slice none 0 0] 46)).alloc (.cells #[.int .i64 0] 25)
  have B4 := (Blk.new ((w.alloc (.cells #[.int .i64 s, .int .i64 p] 28)).alloc (.cells #[.int .u64 (wordM F 0 : Nat), .int .u64 (wordM F 1 : Nat), .int .u64 (wordM F 2 : Nat), .int .u64 (wordM F 3 : Nat), .int .i64 r, .int .i64 q, .int .i64 d] 50)) 46 #[.slice none 0 0]).alloc (.cells #[.int .i64 0] 25)
  have B5 := Blk.new (((w.alloc (.cells #[.int .i64 s, .int .i64 p] 28)).alloc (.cells #[.int .u64 (wordM F 0 : Nat), .int .u64 (wordM F 1 : Nat), .int .u64 (wordM F 2 : Nat), .int .u64 (wordM F 3 : Nat), .int .i64 r, .int .i64 q, .int .i64 d] 50)).alloc (.cells #[.slice none 0 0] 46)) 25 #[.int .i64 0]
  simp only [World.size_alloc] at B3 B4 B5
  have HB3 := Lib.hid B3
  have HB4 := Lib.hid B4
  have HB5 := Lib.hid B5
  clear B3 B4 B5
  go_enter Try.func24, Try.ntmps24
  have e0 := fun i => HB3.out.cell i
  go_wp2_with fail
  refine (H49.out _).mono ?_
  rintro e w1 ⟨rfl, hf1⟩
  clear e0
  have hR4a := HB4.out.fr hf1 (fun h => h)
  have hR5a := HB5.out.fr hf1 (fun h => h)
  have hFa : Fr (fun _ => False) w w1 := ((((Fr.refl _ w).alloc _).alloc _).alloc _).alloc _ |>.then hf1
  have hza := hR5a.lt
  have hzb := (HB2.out.fr hf1 (fun h => h)).lt
  have hB1 := (HB2.out.fr hf1 (fun h => h)).alloc (.cells #[.func (.func fi) #[] #[]] 87)
  have hC1 := (HB3.out.fr hf1 (fun h => h)).alloc (.cells #[.func (.func fi) #[] #[]] 87)
  have e1 := fun i => hB1.cell i
  go_wp2_with fail
  refine (H50.out _).mono ?_
  rintro e w2 ⟨rfl, hf2⟩
  clear e1
  have e2 := fun i => (hC1.fr hf2 (fun h => h)).cell i
  have hR4 := (hR4a.alloc (.cells #[.func (.func fi) #[] #[]] 87)).fr hf2 (fun h => h)
  have hR5 := (hR5a.alloc (.cells #[.func (.func fi) #[] #[]] 87)).fr hf2 (fun h => h)
  have hF := (hFa.alloc (.cells #[.func (.func fi) #[] #[]] 87)).then hf2
  clear hR4a hR5a hFa hB1 hC1
  go_wp2_with fail
  refine (H54.out _).mono ?_
  rintro e w3 ⟨rfl, rfl⟩
  have r4 := hR4
  have r5 := hR5
  have p4 := r4.cell 0
  have p4' := r4.frozen 0
  have p5 := r5.cell 0
  have p5' := r5.frozen 0
  have HF := Lib.hid hF
  clear hF r4 r5 hR4 hR5
  go_wp2_with fail
  (try simp only [Exit.inBlock, Exit.then])
  refine bodyPost_ret (v := .tuple #[.slice none 0 0, .int .i64 1]) ?_ rfl ⟨rfl, ?_⟩
  · rw [results_cell_cell rfl]
    go_simp
  · first
      | exact (HF.out.setCell (p := ⟨w.heap.size + 1 + 1, 0, none⟩) (Or.inr (by simp; omega)) _).setCell (p := ⟨w.heap.size + 1 + 1 + 1, 0, none⟩) (Or.inr (by simp; omega)) _
      | exact ((HF.out.setCell (p := ⟨w.heap.size + 1 + 1, 0, none⟩) (Or.inr (by simp; omega)) _).setCell (p := ⟨w.heap.size + 1 + 1 + 1, 0, none⟩) (Or.inr (by simp; omega)) _).alloc _
      | exact ((HF.out.setCell (p := ⟨w.heap.size + 1 + 1, 0, none⟩) (Or.inr (by simp; omega)) _).alloc _).setCell (p := ⟨w.heap.size + 1 + 1 + 1, 0, none⟩) (Or.inr (by simp; omega)) _
      | exact ((HF.out.alloc _).setCell (p := ⟨w.heap.size + 1 + 1, 0, none⟩) (Or.inr (by simp; omega)) _).setCell (p := ⟨w.heap.size + 1 + 1 + 1, 0, none⟩) (Or.inr (by simp; omega)) _


set_option maxHeartbeats 1000000 in
theorem bad24_4 (s p : Int) (F : Nat) (r q d : Int) (w : World) (fi : Nat) (H49 : Hid (∀ W, Calls Try.prog 49 #[.int .i64 d] W fun e w' => e = .returned (.tuple #[.agg #[.func (.func fi) #[] #[]], .bool true]) ∧ Fr (fun _ => False) W w')) (H50 : Hid (∀ W, Calls Try.prog 50 #[.agg #[.int .i64 s, .int .i64 p]] W fun e w' => e = .returned (.bool true) ∧ Fr (fun _ => False) W w')) (H54 : Hid (∀ W, Calls Try.prog 54 #[.int .i64 r, .int .i64 1, .int .i64 32] W fun e w' => e = .returned (.bool true) ∧ W = w')) (H54' : Hid (∀ W, Calls Try.prog 54 #[.int .i64 q, .int .i64 1, .int .i64 256] W fun e w' => e = .returned (.bool false) ∧ W = w')) :
    Calls Try.prog 24 #[.agg #[.int .i64 s, .int .i64 p], .agg #[.int .u64 (wordM F 0 : Nat), .int .u64 (wordM F 1 : Nat), .int .u64 (wordM F 2 : Nat), .int .u64 (wordM F 3 : Nat), .int .i64 r, .int .i64 q, .int .i64 d]] w fun e w' => e = .returned (.tuple #[.slice none 0 0, .int .i64 1]) ∧ Fr (fun _ => False) w w' := by
  have HB2 := Lib.hid ((((Blk.new w 28 #[.int .i64 s, .int .i64 p]).alloc (.cells #[.int .u64 (wordM F 0 : Nat), .int .u64 (wordM F 1 : Nat), .int .u64 (wordM F 2 : Nat), .int .u64 (wordM F 3 : Nat), .int .i64 r, .int .i64 q, .int .i64 d] 50)).alloc (.cells #[.slice none 0 0] 46)).alloc (.cells #[.int .i64 0] 25))
  have B3 := ((Blk.new (w.alloc (.cells #[.int .i64 s, .int .i64 p] 28)) 50 #[.int .u64 (wordM F 0 : Nat), .int .u64 (wordM F 1 : Nat), .int .u64 (wordM F 2 : Nat), .int .u64 (wordM F 3 : Nat), .int .i64 r, .int .i64 q, .int .i64 d]).alloc (.cells #[.slice none 0 0] 46)).alloc (.cells #[.int .i64 0] 25)
  have B4 := (Blk.new ((w.alloc (.cells #[.int .i64 s, .int .i64 p] 28)).alloc (.cells #[.int .u64 (wordM F 0 : Nat), .int .u64 (wordM F 1 : Nat), .int .u64 (wordM F 2 : Nat), .int .u64 (wordM F 3 : Nat), .int .i64 r, .int .i64 q, .int .i64 d] 50)) 46 #[.slice none 0 0]).alloc (.cells #[.int .i64 0] 25)
  have B5 := Blk.new (((w.alloc (.cells #[.int .i64 s, .int .i64 p] 28)).alloc (.cells #[.int .u64 (wordM F 0 : Nat), .int .u64 (wordM F 1 : Nat), .int .u64 (wordM F 2 : Nat), .int .u64 (wordM F 3 : Nat), .int .i64 r, .int .i64 q, .int .i64 d] 50)).alloc (.cells #[.slice none 0 0] 46)) 25 #[.int .i64 0]
  simp only [World.size_alloc] at B3 B4 B5
  have HB3 := Lib.hid B3
  have HB4 := Lib.hid B4
  have HB5 := Lib.hid B5
  clear B3 B4 B5
  go_enter Try.func24, Try.ntmps24
  have e0 := fun i => HB3.out.cell i
  go_wp2_with fail
  refine (H49.out _).mono ?_
  rintro e w1 ⟨rfl, hf1⟩
  clear e0
  have hR4a := HB4.out.fr hf1 (fun h => h)
  have hR5a := HB5.out.fr hf1 (fun h => h)
  have hFa : Fr (fun _ => False) w w1 := ((((Fr.refl _ w).alloc _).alloc _).alloc _).alloc _ |>.then hf1
  have hza := hR5a.lt
  have hzb := (HB2.out.fr hf1 (fun h => h)).lt
  have hB1 := (HB2.out.fr hf1 (fun h => h)).alloc (.cells #[.func (.func fi) #[] #[]] 87)
  have hC1 := (HB3.out.fr hf1 (fun h => h)).alloc (.cells #[.func (.func fi) #[] #[]] 87)
  have e1 := fun i => hB1.cell i
  go_wp2_with fail
  refine (H50.out _).mono ?_
  rintro e w2 ⟨rfl, hf2⟩
  clear e1
  have e2 := fun i => (hC1.fr hf2 (fun h => h)).cell i
  have hR4 := (hR4a.alloc (.cells #[.func (.func fi) #[] #[]] 87)).fr hf2 (fun h => h)
  have hR5 := (hR5a.alloc (.cells #[.func (.func fi) #[] #[]] 87)).fr hf2 (fun h => h)
  have hF := (hFa.alloc (.cells #[.func (.func fi) #[] #[]] 87)).then hf2
  clear hR4a hR5a hFa hB1 hC1
  go_wp2_with fail
  refine (H54.out _).mono ?_
  rintro e w3 ⟨rfl, rfl⟩
  go_wp2_with fail
  refine (H54'.out _).mono ?_
  rintro e w3 ⟨rfl, rfl⟩
  have r4 := hR4
  have r5 := hR5
  have p4 := r4.cell 0
  have p4' := r4.frozen 0
  have p5 := r5.cell 0
  have p5' := r5.frozen 0
  have HF := Lib.hid hF
  clear hF r4 r5 hR4 hR5
  go_wp2_with fail
  (try simp only [Exit.inBlock, Exit.then])
  refine bodyPost_ret (v := .tuple #[.slice none 0 0, .int .i64 1]) ?_ rfl ⟨rfl, ?_⟩
  · rw [results_cell_cell rfl]
    go_simp
  · first
      | exact (HF.out.setCell (p := ⟨w.heap.size + 1 + 1, 0, none⟩) (Or.inr (by simp; omega)) _).setCell (p := ⟨w.heap.size + 1 + 1 + 1, 0, none⟩) (Or.inr (by simp; omega)) _
      | exact ((HF.out.setCell (p := ⟨w.heap.size + 1 + 1, 0, none⟩) (Or.inr (by simp; omega)) _).setCell (p := ⟨w.heap.size + 1 + 1 + 1, 0, none⟩) (Or.inr (by simp; omega)) _).alloc _
      | exact ((HF.out.setCell (p := ⟨w.heap.size + 1 + 1, 0, none⟩) (Or.inr (by simp; omega)) _).alloc _).setCell (p := ⟨w.heap.size + 1 + 1 + 1, 0, none⟩) (Or.inr (by simp; omega)) _
      | exact ((HF.out.alloc _).setCell (p := ⟨w.heap.size + 1 + 1, 0, none⟩) (Or.inr (by simp; omega)) _).setCell (p := ⟨w.heap.size + 1 + 1 + 1, 0, none⟩) (Or.inr (by simp; omega)) _


/-- A wish that may be. -/
def okW (l : LayD) (x : WishD) : Prop := okO l x.dist ∧ (1 ≤ x.ranks ∧ x.ranks ≤ 32) ∧ (1 ≤ x.per ∧ x.per ≤ 256)
instance (l : LayD) (x : WishD) : Decidable (okW l x) := by unfold okW; exact inferInstance
/-- What Assign answers. -/
def assignP (l : LayD) (x : WishD) : List Nat × Int := if okW l x then asg x.free x.ranks.toNat x.per.toNat (l.order x.dist) else ([], 1)

theorem assign24_bad (l : LayD) (x : WishD) (h : ¬ okW l x) (w : World) : Calls Try.prog 24 #[l.val, x.val] w fun e w' => e = .returned (.tuple #[.slice none 0 0, .int .i64 1]) ∧ Fr (fun _ => False) w w' := by
  obtain ⟨s, p⟩ := l
  obtain ⟨F, r, q, d⟩ := x
  have h49 := fun W => of49_any d W
  have h50 := fun W => may50_any ⟨s, p⟩ W
  have h54 := fun W => in54_any r 1 32 W
  have h54' := fun W => in54_any q 1 256 W
  simp only [LayD.val, WishD.val, WishD.cells] at *
  by_cases hd : d = 0 ∨ d = 1
  · have hfv : ∃ a, ofV d = (.func (.func a) #[] #[], true) := by
      rcases hd with rfl | rfl
      · exact ⟨_, rfl⟩
      · exact ⟨_, rfl⟩
    obtain ⟨fi, hfi⟩ := hfv
    rw [hfi] at h49
    by_cases hm : (⟨s, p⟩ : LayD).may
    · rw [decide_eq_true hm] at h50
      by_cases h1 : 1 ≤ r ∧ r ≤ 32
      · rw [decide_eq_true h1] at h54
        have h2 : ¬ (1 ≤ q ∧ q ≤ 256) := fun h2 => h ⟨⟨hm, hd⟩, h1, h2⟩
        rw [decide_eq_false h2] at h54'
        exact bad24_4 s p F r q d w fi (Lib.hid h49) (Lib.hid h50) (Lib.hid h54) (Lib.hid h54')
      · rw [decide_eq_false h1] at h54
        exact bad24_3 s p F r q d w fi (Lib.hid h49) (Lib.hid h50) (Lib.hid h54)
    · rw [decide_eq_false hm] at h50
      exact bad24_2 s p F r q d w fi (Lib.hid h49) (Lib.hid h50)
  · have hfv : ofV d = (.nilFunc, false) := by
      unfold ofV
      rw [if_neg (fun e => hd (Or.inl e)), if_neg (fun e => hd (Or.inr e))]
    rw [hfv] at h49
    exact bad24_1 s p F r q d w (Lib.hid h49)

theorem assign24_any (l : LayD) (x : WishD) (w : World) : Calls Try.prog 24 #[l.val, x.val] w fun e w' => ∃ v, e = .returned (.tuple #[v, .int .i64 (assignP l x).2]) ∧ w'.ownsRow w.heap.size 33 4 v (assignP l x).1.length (flatM (assignP l x).1) ∧ Fr (fun _ => False) w w' := by
  by_cases h : okW l x
  · rw [show assignP l x = asg x.free x.ranks.toNat x.per.toNat (l.order x.dist) from if_pos h]
    obtain ⟨⟨hm, hd⟩, h1, h2⟩ := h
    obtain ⟨s, p, rfl, b1, b2, b3⟩ := nats_of hm
    obtain ⟨F, r, q, d⟩ := x
    simp only at hd h1 h2
    obtain ⟨r', rfl⟩ : ∃ r' : Nat, r = (r' : Int) := ⟨r.toNat, by omega⟩
    obtain ⟨q', rfl⟩ : ∃ q' : Nat, q = (q' : Int) := ⟨q.toNat, by omega⟩
    simp only [Int.toNat_natCast]
    rcases hd with rfl | rfl
    · rw [order_block b1 b2 b3]
      exact assign24_block s p b1 b2 b3 F r' q' (by omega) (by omega) w _ rfl
    · rw [order_cyclic b1 b2 b3]
      exact assign24_cyclic s p b1 b2 b3 F r' q' (by omega) (by omega) w _ rfl
  · rw [show assignP l x = ([], 1) from if_neg h]
    refine (assign24_bad l x h w).mono ?_
    rintro e w' ⟨rfl, hf⟩
    exact ⟨_, rfl, World.ownsRow_nil _ _ _ _, hf⟩

end Go.Proofs.Ytcefadbnmpjeiaa

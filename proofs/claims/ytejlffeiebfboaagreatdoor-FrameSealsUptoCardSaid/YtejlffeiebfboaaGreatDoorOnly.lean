/- The statements' own only: a datagram with just the fields that its kind has. -/
import Derived.Test.YtejlffeiebfboaaGreatDoorApart
import Derived.Test.YtejlffeiebfboaaGreatDoorSealLaw
set_option linter.unusedVariables false
set_option linter.unusedSimpArgs false
namespace Go.Proofs.YtejlffeiebfboaaGreatDoor.Law
open Go Go.RowKit Go.Proofs.YtejlffeiebfboaaGreatDoor.Mem Go.Proofs.YtejlffeiebfboaaGreatDoor.PackW Go.Proofs.YtejlffeiebfboaaGreatDoor.Put Go.Proofs.YtejlffeiebfboaaGreatDoor.Get

theorem only_results {b : Nat} {d : DG} (tmps : Array Value) (w : World) (h2 : tmps.getD 2 undef = .pointer (some ⟨b, 0, none⟩)) (hr : Row w b 26 d.cells) :
    (results Tryz.f14 tmps).run Tryz.prog w = .ok (.agg d.cells.toArray) w :=
  results_cell_row Tryz.results14 tmps w b 26 d.cells.toArray (0, 0) _ h2 hr.out Tryz.underlying26 rfl (by rw [size26]; rfl)

set_option maxRecDepth 100000 in
set_option maxHeartbeats 4000000 in
theorem only1 (x1 x3 x4 x7 x13 x14 : ByteArray) (x2 x5 x8 : Nat) (x6 x9 x10 : Int) (x11 x12 : Bool) (l : List Value) (hl : (onlyD ⟨1, x1, x2, x3, x4, x5, x6, x7, x8, x9, x10, x11, x12, x13, x14⟩).cells = l) (w : World) :
    Calls Tryz.prog 14 #[.agg #[.int .i64 1, .string x1, .int .u64 (x2 : Int), .string x3, .string x4, .int .u64 (x5 : Int), .int .i64 x6, .string x7, .int .u64 (x8 : Int), .int .i64 x9, .int .i64 x10, .bool x11, .bool x12, .string x13, .string x14]] w fun e w' => e = .returned (.agg l.toArray) ∧ Chg (fun _ => False) w w' := by
  have hl2 : l = [.int .i64 1, .string x1, .int .u64 0, .string ⟨#[]⟩, .string ⟨#[]⟩, .int .u64 0, .int .i64 0, .string ⟨#[]⟩, .int .u64 0, .int .i64 0, .int .i64 0, .bool false, .bool false, .string ⟨#[]⟩, .string ⟨#[]⟩] := by rw [← hl]; rfl
  subst hl2
  clear hl
  have HR : Hid (∀ (A O3 : Obj) (l : List Value), Row (((w.alloc A).alloc (.cells l.toArray 26)).alloc O3) (w.heap.size + 1) 26 l) := fun A O3 l => by
    have h := (Row.alloc_new (w.alloc A) 26 l).alloc O3
    rwa [show (w.alloc A).heap.size = w.heap.size + 1 by simp] at h
  have HC : Hid (∀ (A O2 O3 : Obj), Chg (fun _ => False) w (((w.alloc A).alloc O2).alloc O3)) := fun A O2 O3 => (((Chg.refl _ _).alloc _).alloc _).alloc _
  go_enter Tryz.func14, Tryz.ntmps14
  go_wp2
  refine bodyPost_ret (only_results (b := w.heap.size + 1) (d := onlyD ⟨1, x1, x2, x3, x4, x5, x6, x7, x8, x9, x10, x11, x12, x13, x14⟩) _ _ rfl ?_) rfl ?_
  · exact HR.out _ _ [.int .i64 1, .string x1, .int .u64 0, .string ⟨#[]⟩, .string ⟨#[]⟩, .int .u64 0, .int .i64 0, .string ⟨#[]⟩, .int .u64 0, .int .i64 0, .int .i64 0, .bool false, .bool false, .string ⟨#[]⟩, .string ⟨#[]⟩]
  · exact ⟨rfl, HC.out _ _ _⟩
set_option maxRecDepth 100000 in
set_option maxHeartbeats 4000000 in
theorem only2 (x1 x3 x4 x7 x13 x14 : ByteArray) (x2 x5 x8 : Nat) (x6 x9 x10 : Int) (x11 x12 : Bool) (l : List Value) (hl : (onlyD ⟨2, x1, x2, x3, x4, x5, x6, x7, x8, x9, x10, x11, x12, x13, x14⟩).cells = l) (w : World) :
    Calls Tryz.prog 14 #[.agg #[.int .i64 2, .string x1, .int .u64 (x2 : Int), .string x3, .string x4, .int .u64 (x5 : Int), .int .i64 x6, .string x7, .int .u64 (x8 : Int), .int .i64 x9, .int .i64 x10, .bool x11, .bool x12, .string x13, .string x14]] w fun e w' => e = .returned (.agg l.toArray) ∧ Chg (fun _ => False) w w' := by
  have hl2 : l = [.int .i64 2, .string x1, .int .u64 (x2 : Int), .string x3, .string ⟨#[]⟩, .int .u64 0, .int .i64 0, .string ⟨#[]⟩, .int .u64 0, .int .i64 0, .int .i64 0, .bool false, .bool false, .string ⟨#[]⟩, .string ⟨#[]⟩] := by rw [← hl]; rfl
  subst hl2
  clear hl
  have HR : Hid (∀ (A O3 : Obj) (l : List Value), Row (((w.alloc A).alloc (.cells l.toArray 26)).alloc O3) (w.heap.size + 1) 26 l) := fun A O3 l => by
    have h := (Row.alloc_new (w.alloc A) 26 l).alloc O3
    rwa [show (w.alloc A).heap.size = w.heap.size + 1 by simp] at h
  have HC : Hid (∀ (A O2 O3 : Obj), Chg (fun _ => False) w (((w.alloc A).alloc O2).alloc O3)) := fun A O2 O3 => (((Chg.refl _ _).alloc _).alloc _).alloc _
  go_enter Tryz.func14, Tryz.ntmps14
  go_wp2
  refine bodyPost_ret (only_results (b := w.heap.size + 1) (d := onlyD ⟨2, x1, x2, x3, x4, x5, x6, x7, x8, x9, x10, x11, x12, x13, x14⟩) _ _ rfl ?_) rfl ?_
  · exact HR.out _ _ [.int .i64 2, .string x1, .int .u64 (x2 : Int), .string x3, .string ⟨#[]⟩, .int .u64 0, .int .i64 0, .string ⟨#[]⟩, .int .u64 0, .int .i64 0, .int .i64 0, .bool false, .bool false, .string ⟨#[]⟩, .string ⟨#[]⟩]
  · exact ⟨rfl, HC.out _ _ _⟩
set_option maxRecDepth 100000 in
set_option maxHeartbeats 4000000 in
theorem only3 (x1 x3 x4 x7 x13 x14 : ByteArray) (x2 x5 x8 : Nat) (x6 x9 x10 : Int) (x11 x12 : Bool) (l : List Value) (hl : (onlyD ⟨3, x1, x2, x3, x4, x5, x6, x7, x8, x9, x10, x11, x12, x13, x14⟩).cells = l) (w : World) :
    Calls Tryz.prog 14 #[.agg #[.int .i64 3, .string x1, .int .u64 (x2 : Int), .string x3, .string x4, .int .u64 (x5 : Int), .int .i64 x6, .string x7, .int .u64 (x8 : Int), .int .i64 x9, .int .i64 x10, .bool x11, .bool x12, .string x13, .string x14]] w fun e w' => e = .returned (.agg l.toArray) ∧ Chg (fun _ => False) w w' := by
  have hl2 : l = [.int .i64 3, .string x1, .int .u64 (x2 : Int), .string x3, .string x4, .int .u64 0, .int .i64 0, .string ⟨#[]⟩, .int .u64 0, .int .i64 0, .int .i64 0, .bool false, .bool false, .string ⟨#[]⟩, .string x14] := by rw [← hl]; rfl
  subst hl2
  clear hl
  have HR : Hid (∀ (A O3 : Obj) (l : List Value), Row (((w.alloc A).alloc (.cells l.toArray 26)).alloc O3) (w.heap.size + 1) 26 l) := fun A O3 l => by
    have h := (Row.alloc_new (w.alloc A) 26 l).alloc O3
    rwa [show (w.alloc A).heap.size = w.heap.size + 1 by simp] at h
  have HC : Hid (∀ (A O2 O3 : Obj), Chg (fun _ => False) w (((w.alloc A).alloc O2).alloc O3)) := fun A O2 O3 => (((Chg.refl _ _).alloc _).alloc _).alloc _
  go_enter Tryz.func14, Tryz.ntmps14
  go_wp2
  refine bodyPost_ret (only_results (b := w.heap.size + 1) (d := onlyD ⟨3, x1, x2, x3, x4, x5, x6, x7, x8, x9, x10, x11, x12, x13, x14⟩) _ _ rfl ?_) rfl ?_
  · exact HR.out _ _ [.int .i64 3, .string x1, .int .u64 (x2 : Int), .string x3, .string x4, .int .u64 0, .int .i64 0, .string ⟨#[]⟩, .int .u64 0, .int .i64 0, .int .i64 0, .bool false, .bool false, .string ⟨#[]⟩, .string x14]
  · exact ⟨rfl, HC.out _ _ _⟩
set_option maxRecDepth 100000 in
set_option maxHeartbeats 4000000 in
theorem only4 (x1 x3 x4 x7 x13 x14 : ByteArray) (x2 x5 x8 : Nat) (x6 x9 x10 : Int) (x11 x12 : Bool) (l : List Value) (hl : (onlyD ⟨4, x1, x2, x3, x4, x5, x6, x7, x8, x9, x10, x11, x12, x13, x14⟩).cells = l) (w : World) :
    Calls Tryz.prog 14 #[.agg #[.int .i64 4, .string x1, .int .u64 (x2 : Int), .string x3, .string x4, .int .u64 (x5 : Int), .int .i64 x6, .string x7, .int .u64 (x8 : Int), .int .i64 x9, .int .i64 x10, .bool x11, .bool x12, .string x13, .string x14]] w fun e w' => e = .returned (.agg l.toArray) ∧ Chg (fun _ => False) w w' := by
  have hl2 : l = [.int .i64 4, .string x1, .int .u64 0, .string ⟨#[]⟩, .string ⟨#[]⟩, .int .u64 (x5 : Int), .int .i64 x6, .string x7, .int .u64 0, .int .i64 0, .int .i64 0, .bool false, .bool false, .string ⟨#[]⟩, .string x14] := by rw [← hl]; rfl
  subst hl2
  clear hl
  have HR : Hid (∀ (A O3 : Obj) (l : List Value), Row (((w.alloc A).alloc (.cells l.toArray 26)).alloc O3) (w.heap.size + 1) 26 l) := fun A O3 l => by
    have h := (Row.alloc_new (w.alloc A) 26 l).alloc O3
    rwa [show (w.alloc A).heap.size = w.heap.size + 1 by simp] at h
  have HC : Hid (∀ (A O2 O3 : Obj), Chg (fun _ => False) w (((w.alloc A).alloc O2).alloc O3)) := fun A O2 O3 => (((Chg.refl _ _).alloc _).alloc _).alloc _
  go_enter Tryz.func14, Tryz.ntmps14
  go_wp2
  refine bodyPost_ret (only_results (b := w.heap.size + 1) (d := onlyD ⟨4, x1, x2, x3, x4, x5, x6, x7, x8, x9, x10, x11, x12, x13, x14⟩) _ _ rfl ?_) rfl ?_
  · exact HR.out _ _ [.int .i64 4, .string x1, .int .u64 0, .string ⟨#[]⟩, .string ⟨#[]⟩, .int .u64 (x5 : Int), .int .i64 x6, .string x7, .int .u64 0, .int .i64 0, .int .i64 0, .bool false, .bool false, .string ⟨#[]⟩, .string x14]
  · exact ⟨rfl, HC.out _ _ _⟩
set_option maxRecDepth 100000 in
set_option maxHeartbeats 4000000 in
theorem only5 (x1 x3 x4 x7 x13 x14 : ByteArray) (x2 x5 x8 : Nat) (x6 x9 x10 : Int) (x11 x12 : Bool) (l : List Value) (hl : (onlyD ⟨5, x1, x2, x3, x4, x5, x6, x7, x8, x9, x10, x11, x12, x13, x14⟩).cells = l) (w : World) :
    Calls Tryz.prog 14 #[.agg #[.int .i64 5, .string x1, .int .u64 (x2 : Int), .string x3, .string x4, .int .u64 (x5 : Int), .int .i64 x6, .string x7, .int .u64 (x8 : Int), .int .i64 x9, .int .i64 x10, .bool x11, .bool x12, .string x13, .string x14]] w fun e w' => e = .returned (.agg l.toArray) ∧ Chg (fun _ => False) w w' := by
  have hl2 : l = [.int .i64 5, .string ⟨#[]⟩, .int .u64 0, .string ⟨#[]⟩, .string ⟨#[]⟩, .int .u64 (x5 : Int), .int .i64 0, .string ⟨#[]⟩, .int .u64 (x8 : Int), .int .i64 x9, .int .i64 x10, .bool x11, .bool x12, .string ⟨#[]⟩, .string x14] := by rw [← hl]; rfl
  subst hl2
  clear hl
  have HR : Hid (∀ (A O3 : Obj) (l : List Value), Row (((w.alloc A).alloc (.cells l.toArray 26)).alloc O3) (w.heap.size + 1) 26 l) := fun A O3 l => by
    have h := (Row.alloc_new (w.alloc A) 26 l).alloc O3
    rwa [show (w.alloc A).heap.size = w.heap.size + 1 by simp] at h
  have HC : Hid (∀ (A O2 O3 : Obj), Chg (fun _ => False) w (((w.alloc A).alloc O2).alloc O3)) := fun A O2 O3 => (((Chg.refl _ _).alloc _).alloc _).alloc _
  go_enter Tryz.func14, Tryz.ntmps14
  go_wp2
  refine bodyPost_ret (only_results (b := w.heap.size + 1) (d := onlyD ⟨5, x1, x2, x3, x4, x5, x6, x7, x8, x9, x10, x11, x12, x13, x14⟩) _ _ rfl ?_) rfl ?_
  · exact HR.out _ _ [.int .i64 5, .string ⟨#[]⟩, .int .u64 0, .string ⟨#[]⟩, .string ⟨#[]⟩, .int .u64 (x5 : Int), .int .i64 0, .string ⟨#[]⟩, .int .u64 (x8 : Int), .int .i64 x9, .int .i64 x10, .bool x11, .bool x12, .string ⟨#[]⟩, .string x14]
  · exact ⟨rfl, HC.out _ _ _⟩
set_option maxRecDepth 100000 in
set_option maxHeartbeats 4000000 in
theorem only6 (x1 x3 x4 x7 x13 x14 : ByteArray) (x2 x5 x8 : Nat) (x6 x9 x10 : Int) (x11 x12 : Bool) (l : List Value) (hl : (onlyD ⟨6, x1, x2, x3, x4, x5, x6, x7, x8, x9, x10, x11, x12, x13, x14⟩).cells = l) (w : World) :
    Calls Tryz.prog 14 #[.agg #[.int .i64 6, .string x1, .int .u64 (x2 : Int), .string x3, .string x4, .int .u64 (x5 : Int), .int .i64 x6, .string x7, .int .u64 (x8 : Int), .int .i64 x9, .int .i64 x10, .bool x11, .bool x12, .string x13, .string x14]] w fun e w' => e = .returned (.agg l.toArray) ∧ Chg (fun _ => False) w w' := by
  have hl2 : l = [.int .i64 6, .string ⟨#[]⟩, .int .u64 0, .string ⟨#[]⟩, .string ⟨#[]⟩, .int .u64 (x5 : Int), .int .i64 0, .string ⟨#[]⟩, .int .u64 (x8 : Int), .int .i64 0, .int .i64 0, .bool false, .bool false, .string x13, .string x14] := by rw [← hl]; rfl
  subst hl2
  clear hl
  have HR : Hid (∀ (A O3 : Obj) (l : List Value), Row (((w.alloc A).alloc (.cells l.toArray 26)).alloc O3) (w.heap.size + 1) 26 l) := fun A O3 l => by
    have h := (Row.alloc_new (w.alloc A) 26 l).alloc O3
    rwa [show (w.alloc A).heap.size = w.heap.size + 1 by simp] at h
  have HC : Hid (∀ (A O2 O3 : Obj), Chg (fun _ => False) w (((w.alloc A).alloc O2).alloc O3)) := fun A O2 O3 => (((Chg.refl _ _).alloc _).alloc _).alloc _
  go_enter Tryz.func14, Tryz.ntmps14
  go_wp2
  refine bodyPost_ret (only_results (b := w.heap.size + 1) (d := onlyD ⟨6, x1, x2, x3, x4, x5, x6, x7, x8, x9, x10, x11, x12, x13, x14⟩) _ _ rfl ?_) rfl ?_
  · exact HR.out _ _ [.int .i64 6, .string ⟨#[]⟩, .int .u64 0, .string ⟨#[]⟩, .string ⟨#[]⟩, .int .u64 (x5 : Int), .int .i64 0, .string ⟨#[]⟩, .int .u64 (x8 : Int), .int .i64 0, .int .i64 0, .bool false, .bool false, .string x13, .string x14]
  · exact ⟨rfl, HC.out _ _ _⟩
set_option maxRecDepth 100000 in
set_option maxHeartbeats 4000000 in
theorem only7 (x1 x3 x4 x7 x13 x14 : ByteArray) (x2 x5 x8 : Nat) (x6 x9 x10 : Int) (x11 x12 : Bool) (l : List Value) (hl : (onlyD ⟨7, x1, x2, x3, x4, x5, x6, x7, x8, x9, x10, x11, x12, x13, x14⟩).cells = l) (w : World) :
    Calls Tryz.prog 14 #[.agg #[.int .i64 7, .string x1, .int .u64 (x2 : Int), .string x3, .string x4, .int .u64 (x5 : Int), .int .i64 x6, .string x7, .int .u64 (x8 : Int), .int .i64 x9, .int .i64 x10, .bool x11, .bool x12, .string x13, .string x14]] w fun e w' => e = .returned (.agg l.toArray) ∧ Chg (fun _ => False) w w' := by
  have hl2 : l = [.int .i64 7, .string ⟨#[]⟩, .int .u64 0, .string ⟨#[]⟩, .string ⟨#[]⟩, .int .u64 (x5 : Int), .int .i64 0, .string ⟨#[]⟩, .int .u64 (x8 : Int), .int .i64 0, .int .i64 0, .bool false, .bool false, .string ⟨#[]⟩, .string x14] := by rw [← hl]; rfl
  subst hl2
  clear hl
  have HR : Hid (∀ (A O3 : Obj) (l : List Value), Row (((w.alloc A).alloc (.cells l.toArray 26)).alloc O3) (w.heap.size + 1) 26 l) := fun A O3 l => by
    have h := (Row.alloc_new (w.alloc A) 26 l).alloc O3
    rwa [show (w.alloc A).heap.size = w.heap.size + 1 by simp] at h
  have HC : Hid (∀ (A O2 O3 : Obj), Chg (fun _ => False) w (((w.alloc A).alloc O2).alloc O3)) := fun A O2 O3 => (((Chg.refl _ _).alloc _).alloc _).alloc _
  go_enter Tryz.func14, Tryz.ntmps14
  go_wp2
  refine bodyPost_ret (only_results (b := w.heap.size + 1) (d := onlyD ⟨7, x1, x2, x3, x4, x5, x6, x7, x8, x9, x10, x11, x12, x13, x14⟩) _ _ rfl ?_) rfl ?_
  · exact HR.out _ _ [.int .i64 7, .string ⟨#[]⟩, .int .u64 0, .string ⟨#[]⟩, .string ⟨#[]⟩, .int .u64 (x5 : Int), .int .i64 0, .string ⟨#[]⟩, .int .u64 (x8 : Int), .int .i64 0, .int .i64 0, .bool false, .bool false, .string ⟨#[]⟩, .string x14]
  · exact ⟨rfl, HC.out _ _ _⟩
theorem only_any (d : DG) (h1 : 1 ≤ d.kind) (h7 : d.kind ≤ 7) (w : World) :
    Calls Tryz.prog 14 #[.agg d.cells.toArray] w fun e w' => e = .returned (.agg (onlyD d).cells.toArray) ∧ Chg (fun _ => False) w w' := by
  have hk : d.kind = 1 ∨ d.kind = 2 ∨ d.kind = 3 ∨ d.kind = 4 ∨ d.kind = 5 ∨ d.kind = 6 ∨ d.kind = 7 := by omega
  clear h1 h7
  obtain ⟨k, x1, x2, x3, x4, x5, x6, x7, x8, x9, x10, x11, x12, x13, x14⟩ := d
  simp only at hk
  rcases hk with rfl | rfl | rfl | rfl | rfl | rfl | rfl
  · exact only1 x1 x3 x4 x7 x13 x14 x2 x5 x8 x6 x9 x10 x11 x12 _ rfl w
  · exact only2 x1 x3 x4 x7 x13 x14 x2 x5 x8 x6 x9 x10 x11 x12 _ rfl w
  · exact only3 x1 x3 x4 x7 x13 x14 x2 x5 x8 x6 x9 x10 x11 x12 _ rfl w
  · exact only4 x1 x3 x4 x7 x13 x14 x2 x5 x8 x6 x9 x10 x11 x12 _ rfl w
  · exact only5 x1 x3 x4 x7 x13 x14 x2 x5 x8 x6 x9 x10 x11 x12 _ rfl w
  · exact only6 x1 x3 x4 x7 x13 x14 x2 x5 x8 x6 x9 x10 x11 x12 _ rfl w
  · exact only7 x1 x3 x4 x7 x13 x14 x2 x5 x8 x6 x9 x10 x11 x12 _ rfl w
end Go.Proofs.YtejlffeiebfboaaGreatDoor.Law

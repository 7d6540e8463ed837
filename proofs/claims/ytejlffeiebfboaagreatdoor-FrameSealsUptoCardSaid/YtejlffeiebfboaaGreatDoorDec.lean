/- The program's frame.Decode. -/
import Derived.Test.YtejlffeiebfboaaGreatDoorGetD
import Derived.Recover
import Derived.Defers
import Derived.Deep.WholeRow
set_option linter.unusedVariables false
set_option linter.unusedSimpArgs false
namespace Go.Proofs.YtejlffeiebfboaaGreatDoor.Get
open Go Go.RowKit Go.Proofs.YtejlffeiebfboaaGreatDoor.Mem Go.Proofs.YtejlffeiebfboaaGreatDoor.PackW Go.Proofs.YtejlffeiebfboaaGreatDoor.PackR Go.Proofs.YtejlffeiebfboaaGreatDoor.Put

theorem zero26 : ∀ w : World, (zeroValue 26).run Tryz.prog w = .ok (.agg d0.cells.toArray) w := fun _ => by kernel_rfl
theorem zero28 : ∀ w : World, (zeroValue 28).run Tryz.prog w = .ok (.int .i64 0) w := fun _ => by kernel_rfl
theorem built26 : Tryz.prog.built 26 [] = some d0.cells.toArray := by kernel_rfl
theorem size26 : (Tryz.prog.info? 26).map (·.size) = some 15 := by kernel_rfl
theorem cells_len (d : DG) : d.cells.length = 15 := rfl
theorem cells_one (d : DG) : ∀ v ∈ d.cells, v.oneCell' = true := by
  intro v hv
  simp only [DG.cells, List.mem_cons, List.not_mem_nil, or_false] at hv
  rcases hv with rfl | rfl | rfl | rfl | rfl | rfl | rfl | rfl | rfl | rfl | rfl | rfl | rfl | rfl | rfl <;> rfl

theorem dec_results {b c : Nat} {d : DG} {x : Int} (tmps : Array Value) (w : World) (h2 : tmps.getD 2 undef = .pointer (some ⟨b, 0, none⟩)) (h3 : tmps.getD 3 undef = .pointer (some ⟨c, 0, none⟩)) (hr : Row w b 26 d.cells) (hc : w.cell? ⟨c, 0, none⟩ = some (.int .i64 x)) :
    (results Tryz.f13 tmps).run Tryz.prog w = .ok (.tuple #[.agg d.cells.toArray, .int .i64 x]) w := by
  have h := run_loadVar_row (P := Tryz.prog) w b 26 26 d.cells.toArray (0, 0) _ hr.out Tryz.underlying26 rfl (by rw [size26]; rfl)
  have h2' : tmps[2]?.getD undef = .pointer (some ⟨b, 0, none⟩) := by simpa using h2
  have h3' : tmps[3]?.getD undef = .pointer (some ⟨c, 0, none⟩) := by simpa using h3
  have h28 : (loadVar 28 ⟨c, 0, none⟩).run Tryz.prog w = .ok (.int .i64 x) w := by simp [go_sem, hc]
  simp [results, Tryz.results13, h2', h3', asAddr, h, h28]

set_option maxRecDepth 100000 in
set_option maxHeartbeats 4000000 in
theorem decode_long (s : ByteArray) (hs : 1200 < s.size) (hm : s.size ≤ 9223372036854775807) (w : World) :
    Calls Tryz.prog 13 #[.string s] w fun e w' => e = .returned (.tuple #[.agg d0.cells.toArray, .int .i64 72]) ∧ Chg (fun _ => False) w w' := by
  have hsI : (1200 : Int) < (s.size : Int) := by omega
  have hmf : ∀ (fn : Fn) (first cap : Array Value) (w : World), (Instr.makeFunc fn first cap).run Tryz.prog w = .ok (.func fn first cap) w := fun _ _ _ _ => rfl
  go_enter_defers Tryz.func13, Tryz.ntmps13
  go_wp2_with (first
    | (refine wpList_allocA rfl 26 rfl (.agg d0.cells.toArray) d0.cells zero26 rfl ?_; intro w1 hz1 hr1 hc1; (have HZ1 := Lib.hid hz1); clear hz1)
    | (refine wpList_allocA rfl 28 rfl (.int .i64 0) [.int .i64 0] zero28 rfl ?_; intro w2 hz2 hr2 hc2; (have ha2 := Row.chg hr1 hc2 id); (have hne : w1.heap.size ≠ w.heap.size := by have := HZ1.out; omega); (have HZ2 := Lib.hid hz2); clear hz2)
    | (refine wpList_load_rowA rfl 26 (.tmp 2) rfl w.heap.size rfl 26 d0.cells _ ha2 Tryz.underlying26 rfl size26 ?_)
    | (refine wpList_store_rowA rfl 26 (.tmp 2) (.tmp 12) rfl w.heap.size d0.cells rfl rfl 26 d0.cells ha2 size26 rfl (cells_one d0) ?_; intro w3 hr3 hc3 hz3; clear hz3; (have q4 := cell_hd (Row.chg hr2 hc3 hne)); (have f4 := Row.frozen (Row.chg hr2 hc3 hne) 0)))
  refine ⟨_, dec_results (d := d0) (x := 72) _ _ rfl rfl (hr3.set_other _ (Ne.symm hne)) ?_, rfl, ?_⟩
  · exact cell_hd ((hr2.chg hc3 hne).set 0 _)
  · refine Chg.setCell ?_ _ _ (fun h => ?_)
    · exact (hc1.trans hc2).then hc3 (fun i hi e => by subst e; exact absurd hi (Nat.lt_irrefl _))
    · have := HZ1.out; exact absurd h (by simp; omega)

/-- What stands behind the magic. -/
def bodyS (s : ByteArray) : ByteArray := ⟨(Lib.trimPrefix s.data.toList [74, 48, 49]).toArray⟩
def hasMagic (s : ByteArray) : Bool := Lib.hasPrefix s.data.toList [74, 48, 49]
theorem cutPrefix_any (s : ByteArray) (w : World) : Calls Tryz.prog 33 #[.string s, .string ⟨#[74, 48, 49]⟩] w fun e w' => e = .returned (.tuple #[.string (bodyS s), .bool (hasMagic s)]) ∧ w = w' :=
  (Tryz.strings_CutPrefix s ⟨#[74, 48, 49]⟩ w).mono fun _ _ ⟨a, b⟩ => ⟨a, b.symm⟩

set_option maxRecDepth 100000 in
set_option maxHeartbeats 4000000 in
theorem decode_nomagic (s : ByteArray) (hs : s.size ≤ 1200) (hp : hasMagic s = false) (w : World) :
    Calls Tryz.prog 13 #[.string s] w fun e w' => e = .returned (.tuple #[.agg d0.cells.toArray, .int .i64 70]) ∧ Chg (fun _ => False) w w' := by
  have hsI : ¬ (1200 : Int) < (s.size : Int) := by omega
  have hmf : ∀ (fn : Fn) (first cap : Array Value) (w : World), (Instr.makeFunc fn first cap).run Tryz.prog w = .ok (.func fn first cap) w := fun _ _ _ _ => rfl
  have CC := Lib.hid (cutPrefix_any s)
  rw [hp] at CC
  clear hp
  go_enter_defers Tryz.func13, Tryz.ntmps13
  go_wp2_with (first
    | (go_at_call 33; with_reducible refine (CC.out _).mono ?_; rintro e w' ⟨rfl, rfl⟩)
    | (refine wpList_allocA rfl 26 rfl (.agg d0.cells.toArray) d0.cells zero26 rfl ?_; intro w1 hz1 hr1 hc1; (have HZ1 := Lib.hid hz1); clear hz1)
    | (refine wpList_allocA rfl 28 rfl (.int .i64 0) [.int .i64 0] zero28 rfl ?_; intro w2 hz2 hr2 hc2; (have ha2 := Row.chg hr1 hc2 id); (have hne : w1.heap.size ≠ w.heap.size := by have := HZ1.out; omega); (have HZ2 := Lib.hid hz2); clear hz2)
    | (refine wpList_load_rowA rfl 26 (.tmp 2) rfl w.heap.size rfl 26 d0.cells _ ha2 Tryz.underlying26 rfl size26 ?_)
    | (refine wpList_store_rowA rfl 26 (.tmp 2) (.tmp 20) rfl w.heap.size d0.cells rfl rfl 26 d0.cells ha2 size26 rfl (cells_one d0) ?_; intro w3 hr3 hc3 hz3; clear hz3; (have q4 := cell_hd (Row.chg hr2 hc3 hne)); (have f4 := Row.frozen (Row.chg hr2 hc3 hne) 0)))
  refine ⟨_, dec_results (d := d0) (x := 70) _ _ rfl rfl (hr3.set_other _ (Ne.symm hne)) ?_, rfl, ?_⟩
  · exact cell_hd ((hr2.chg hc3 hne).set 0 _)
  · refine Chg.setCell ?_ _ _ (fun h => ?_)
    · exact (hc1.trans hc2).then hc3 (fun i hi e => by subst e; exact absurd hi (Nat.lt_irrefl _))
    · have := HZ1.out; exact absurd h (by simp; omega)

theorem isEmpty_of (t : ByteArray) : t.toList.isEmpty = decide (t.size = 0) := by
  rw [← decide_eq_emptyBytes, decide_eq_decide]
  exact ByteArray.size_eq_zero_iff.symm
/-- The first byte as a kind. -/
def kindB (t : ByteArray) : Int := ((bs t).getD 0 0).toNat
theorem kindB_get (t : ByteArray) (h : 0 < t.size) : wrap64 (((t[0]'h).toNat : Nat) : Int) = kindB t := by
  have e : (bs t).getD 0 0 = t[0]'h := by
    have hl : 0 < (bs t).length := by rw [bs_length]; exact h
    rw [List.getD, List.getElem?_eq_getElem hl]; rfl
  unfold kindB
  rw [e]
  have := (t[0]'h).toNat_lt
  unfold wrap64
  omega

set_option maxRecDepth 100000 in
set_option maxHeartbeats 4000000 in
theorem decode_nokind (s : ByteArray) (hs : s.size ≤ 1200) (hp : hasMagic s = true) (hk : (bodyS s).size = 0 ∨ ¬ (1 ≤ kindB (bodyS s) ∧ kindB (bodyS s) ≤ 7)) (w : World) :
    Calls Tryz.prog 13 #[.string s] w fun e w' => e = .returned (.tuple #[.agg d0.cells.toArray, .int .i64 71]) ∧ Chg (fun _ => False) w w' := by
  have hsI : ¬ (1200 : Int) < (s.size : Int) := by omega
  have hmf : ∀ (fn : Fn) (first cap : Array Value) (w : World), (Instr.makeFunc fn first cap).run Tryz.prog w = .ok (.func fn first cap) w := fun _ _ _ _ => rfl
  have CC := Lib.hid (cutPrefix_any s)
  rw [hp] at CC
  clear hp
  have key : ((bodyS s).toList.isEmpty = true) ∨ ((bodyS s).toList.isEmpty = false ∧ 0 < (bodyS s).size ∧ Hid (decide (1 ≤ kindB (bodyS s) ∧ kindB (bodyS s) ≤ 7) = false)) := by
    rw [isEmpty_of]
    by_cases h0 : (bodyS s).size = 0
    · exact .inl (by simp [h0])
    · exact .inr ⟨by simp [h0], by omega, by show _ = _; simp; omega⟩
  clear hk
  generalize bodyS s = t at *
  rcases key with he | ⟨he, h0, hk⟩
  · go_enter_defers Tryz.func13, Tryz.ntmps13
    go_wp2_with (first
      | (go_at_call 33; with_reducible refine (CC.out _).mono ?_; rintro e w' ⟨rfl, rfl⟩)
      | (refine wpList_allocA rfl 26 rfl (.agg d0.cells.toArray) d0.cells zero26 rfl ?_; intro w1 hz1 hr1 hc1; (have HZ1 := Lib.hid hz1); clear hz1)
      | (refine wpList_allocA rfl 28 rfl (.int .i64 0) [.int .i64 0] zero28 rfl ?_; intro w2 hz2 hr2 hc2; (have ha2 := Row.chg hr1 hc2 id); (have hne : w1.heap.size ≠ w.heap.size := by have := HZ1.out; omega); (have HZ2 := Lib.hid hz2); clear hz2)
      | (refine wpList_load_rowA rfl 26 (.tmp 2) rfl w.heap.size rfl 26 d0.cells _ ha2 Tryz.underlying26 rfl size26 ?_)
      | (refine wpList_store_rowA rfl 26 (.tmp 2) (.tmp 30) rfl w.heap.size d0.cells rfl rfl 26 d0.cells ha2 size26 rfl (cells_one d0) ?_; intro w3 hr3 hc3 hz3; clear hz3; (have q4 := cell_hd (Row.chg hr2 hc3 hne)); (have f4 := Row.frozen (Row.chg hr2 hc3 hne) 0)))
    refine ⟨_, dec_results (d := d0) (x := 71) _ _ rfl rfl (hr3.set_other _ (Ne.symm hne)) ?_, rfl, ?_⟩
    · exact cell_hd ((hr2.chg hc3 hne).set 0 _)
    · refine Chg.setCell ?_ _ _ (fun h => ?_)
      · exact (hc1.trans hc2).then hc3 (fun i hi e => by subst e; exact absurd hi (Nat.lt_irrefl _))
      · have := HZ1.out; exact absurd h (by simp; omega)
  · have CK : Hid (∀ w, Calls Tryz.prog 21 #[.int .i64 (wrap64 (((t[0]'h0).toNat : Nat) : Int))] w fun e w' => e = .returned (.bool false) ∧ w = w') := by
      intro w; rw [kindB_get t h0, ← hk.out]; exact known_any (kindB t) w
    go_enter_defers Tryz.func13, Tryz.ntmps13
    go_wp2_with (first
      | (go_at_call 33; with_reducible refine (CC.out _).mono ?_; rintro e w' ⟨rfl, rfl⟩)
      | (go_at_call 21; with_reducible refine (CK.out _).mono ?_; rintro e w' ⟨rfl, rfl⟩)
      | (refine wpList_allocA rfl 26 rfl (.agg d0.cells.toArray) d0.cells zero26 rfl ?_; intro w1 hz1 hr1 hc1; (have HZ1 := Lib.hid hz1); clear hz1)
      | (refine wpList_allocA rfl 28 rfl (.int .i64 0) [.int .i64 0] zero28 rfl ?_; intro w2 hz2 hr2 hc2; (have ha2 := Row.chg hr1 hc2 id); (have hne : w1.heap.size ≠ w.heap.size := by have := HZ1.out; omega); (have HZ2 := Lib.hid hz2); clear hz2)
      | (refine wpList_load_rowA rfl 26 (.tmp 2) rfl w.heap.size rfl 26 d0.cells _ ha2 Tryz.underlying26 rfl size26 ?_)
      | (refine wpList_store_rowA rfl 26 (.tmp 2) (.tmp 30) rfl w.heap.size d0.cells rfl rfl 26 d0.cells ha2 size26 rfl (cells_one d0) ?_; intro w3 hr3 hc3 hz3; clear hz3; (have q4 := cell_hd (Row.chg hr2 hc3 hne)); (have f4 := Row.frozen (Row.chg hr2 hc3 hne) 0)))
    refine ⟨_, dec_results (d := d0) (x := 71) _ _ rfl rfl (hr3.set_other _ (Ne.symm hne)) ?_, rfl, ?_⟩
    · exact cell_hd ((hr2.chg hc3 hne).set 0 _)
    · refine Chg.setCell ?_ _ _ (fun h => ?_)
      · exact (hc1.trans hc2).then hc3 (fun i hi e => by subst e; exact absurd hi (Nat.lt_irrefl _))
      · have := HZ1.out; exact absurd h (by simp; omega)

set_option maxRecDepth 100000 in
set_option maxHeartbeats 4000000 in
/-- The deferred function where a field gave up. -/
theorem catch_panicking (b c : Nat) (d : DG) (x : Int) (older : List PanicEntry) (w : World) (hb : Row w b 26 d.cells) (hc : Row w c 28 [.int .i64 x]) (hne : c ≠ b) :
    CallsD Tryz.prog 34 #[.pointer (some ⟨b, 0, none⟩), .pointer (some ⟨c, 0, none⟩)] (.panicking ({ v := .iface 28 (.int .i64 72), recovered := false } :: older)) w fun e u' w' =>
      e = .returned (.tuple #[]) ∧ u' = .panicking ({ v := .iface 28 (.int .i64 72), recovered := true } :: older) ∧ Row w' b 26 d0.cells ∧ Row w' c 28 [.int .i64 72] ∧ Chg (fun k => k = b ∨ k = c) w w' := by
  refine callsD_of_wpS Tryz.func34 rfl fun c₀ cs hu => ?_
  have hta : ∀ w, (Instr.typeAssert (.iface 28 (.int .i64 72)) 20 28 true).run Tryz.prog w = .ok (.tuple #[.int .i64 72, .bool true]) w := fun _ => by kernel_rfl
  have ht : (#[.pointer (some ⟨b, 0, none⟩), .pointer (some ⟨c, 0, none⟩)] ++ Array.replicate (Tryz.f34.ntmps - (#[.pointer (some ⟨b, 0, none⟩), .pointer (some ⟨c, 0, none⟩)] : Array Value).size) undef : Array Value) = #[.pointer (some ⟨b, 0, none⟩), .pointer (some ⟨c, 0, none⟩), undef, undef, undef, undef, undef, undef, undef, undef, undef, undef, undef, undef, undef, undef, undef, undef] := by
    rw [Tryz.ntmps34]; rfl
  rw [ht]
  clear ht
  apply wpS_seq
  apply wpS_region
  simp [wpOpsS, go_sem, recoverD, hu, Exit.thenS]
  refine wpS_of_wp ?_
  go_wp2_with (first
    | (refine wpList_buildA rfl 26 #[] rfl d0.cells.toArray built26 ?_)
    | (refine wpList_store_rowA rfl 26 (.tmp 0) (.tmp 16) rfl b d0.cells rfl rfl 26 d.cells hb size26 rfl (cells_one d0) ?_; intro w3 hr3 hc3 hz3; clear hz3; (have q4 := cell_hd (Row.chg hc hc3 hne)); (have f4 := Row.frozen (Row.chg hc hc3 hne) 0)))
  refine ⟨rfl, _, rfl, _, results_none rfl _ _ _, rfl, rfl, hr3.set_other _ (Ne.symm hne), (Row.chg hc hc3 hne).set 0 _, (hc3.mono (fun _ _ e => .inl e)).setCell _ _ (fun _ => .inr rfl)⟩

set_option maxRecDepth 100000 in
set_option maxHeartbeats 4000000 in
/-- The deferred function where nothing has panicked. -/
theorem catch_idle (b c : Nat) (w : World) :
    CallsD Tryz.prog 34 #[.pointer (some ⟨b, 0, none⟩), .pointer (some ⟨c, 0, none⟩)] .returning w fun e u' w' => e = .returned (.tuple #[]) ∧ u' = .returning ∧ w' = w := by
  refine callsD_of_wpS Tryz.func34 rfl fun c₀ cs hu => ?_
  have ht : (#[.pointer (some ⟨b, 0, none⟩), .pointer (some ⟨c, 0, none⟩)] ++ Array.replicate (Tryz.f34.ntmps - (#[.pointer (some ⟨b, 0, none⟩), .pointer (some ⟨c, 0, none⟩)] : Array Value).size) undef : Array Value) = #[.pointer (some ⟨b, 0, none⟩), .pointer (some ⟨c, 0, none⟩), undef, undef, undef, undef, undef, undef, undef, undef, undef, undef, undef, undef, undef, undef, undef, undef] := by
    rw [Tryz.ntmps34]; rfl
  rw [ht]
  clear ht
  apply wpS_seq
  apply wpS_region
  simp [wpOpsS, go_sem, recoverD, hu, Exit.thenS]
  refine wpS_of_wp ?_
  go_wp2_with (fail)
  refine ⟨rfl, .returning, ?_, _, results_none rfl _ _ _, rfl, rfl, rfl⟩
  rw [← hu]

/-- At the head of the loop over the fields. -/
def DecInv (L : List Fld) (RR : Option (DG × ByteArray × Bool)) (rb br fb : Nat) (w5 : World) (k : Nat) (d : DG) (s : ByteArray) (bad : Bool) (wr : World) : Prop :=
  IsG wr rb br d s bad ∧ Row wr fb 59 (fcells L) ∧ Chg (fun k => k = rb ∨ k = br) w5 wr ∧ rdF (L.drop k) d s bad = RR
/-- What Decode gives. -/
def decR : Option (DG × ByteArray × Bool) → DG × Int
  | none => (d0, 72)
  | some (d, s, bad) => if 0 < s.size then (d0, 72) else if bad = true then (d0, 73) else (d, 0)

set_option maxRecDepth 100000 in
set_option maxHeartbeats 8000000 in
theorem decode_known (s : ByteArray) (hs : s.size ≤ 1200) (hp : hasMagic s = true) (h0 : 0 < (bodyS s).size) (hl : (bodyS s).size ≤ 1200) (h1 : 1 ≤ kindB (bodyS s)) (h7 : kindB (bodyS s) ≤ 7) (w : World) (R : DG × Int)
    (hR : decR (rdF (flds (kindB (bodyS s))) { d0 with kind := kindB (bodyS s) } (tail1 (bodyS s)) false) = R) :
    Calls Tryz.prog 13 #[.string s] w fun e w' => e = .returned (.tuple #[.agg R.1.cells.toArray, .int .i64 R.2]) ∧ Chg (fun _ => False) w w' := by
  have hsI : ¬ (1200 : Int) < (s.size : Int) := by omega
  have hmf : ∀ (fn : Fn) (first cap : Array Value) (w : World), (Instr.makeFunc fn first cap).run Tryz.prog w = .ok (.func fn first cap) w := fun _ _ _ _ => rfl
  have CC := Lib.hid (cutPrefix_any s)
  rw [hp] at CC
  clear hp
  generalize bodyS s = t at *
  have he : t.toList.isEmpty = false := by rw [isEmpty_of]; exact decide_eq_false (by omega)
  have hlI : (1 : Int) ≤ (t.size : Int) := by omega
  have HR := Lib.hid hR
  clear hR
  have CK : Hid (∀ w, Calls Tryz.prog 21 #[.int .i64 (wrap64 (((t[0]'h0).toNat : Nat) : Int))] w fun e w' => e = .returned (.bool true) ∧ w = w') := by
    intro w
    have hk : decide (1 ≤ kindB t ∧ kindB t ≤ 7) = true := by simp [h1, h7]
    rw [kindB_get t h0, ← hk]; exact known_any (kindB t) w
  have HW := Lib.hid (kindB_get t h0)
  have H1 := Lib.hid h1
  have H7 := Lib.hid h7
  clear h1 h7
  go_enter_defers Tryz.func13, Tryz.ntmps13
  go_wp2_with (first
    | (go_at_call 33; with_reducible refine (CC.out _).mono ?_; rintro e w' ⟨rfl, rfl⟩)
    | (go_at_call 21; with_reducible refine (CK.out _).mono ?_; rintro e w' ⟨rfl, rfl⟩)
    | (refine wpList_allocA rfl 26 rfl (.agg d0.cells.toArray) d0.cells zero26 rfl ?_; intro w1 hz1 hr1 hc1; (have HZ1 := Lib.hid hz1); clear hz1)
    | (refine wpList_allocA rfl 28 rfl (.int .i64 0) [.int .i64 0] zero28 rfl ?_; intro w2 hz2 hr2 hc2; (have ha2 := Row.chg hr1 hc2 id); (have hne : w1.heap.size ≠ w.heap.size := by have := HZ1.out; omega); (have HZ2 := Lib.hid hz2); clear hz2)
    | (go_at_call 35; with_reducible refine (newReader_any _ _).mono ?_; rintro e w3 ⟨rfl, hI3, hc3⟩))
  generalize hκ : wrap64 (((t[0]'h0).toNat : Nat) : Int) = κ at *
  clear hκ CK CC
  have HR2 := HR.out
  rw [← HW.out] at HR2
  have H12 := H1.out
  rw [← HW.out] at H12
  have H72 := H7.out
  rw [← HW.out] at H72
  clear HR H1 H7 HW
  have hrow : Row (w3.alloc (.cells (wcells w2.heap.size { d0 with kind := κ } false).toArray 71)) w3.heap.size 71 (wcells w2.heap.size { d0 with kind := κ } false) := Row.alloc_new w3 _ _
  have hca := (Chg.refl (fun _ => False) w3).alloc (.cells (wcells w2.heap.size { d0 with kind := κ } false).toArray 71)
  have hG0 : IsG (w3.alloc (.cells (wcells w2.heap.size { d0 with kind := κ } false).toArray 71)) w3.heap.size w2.heap.size { d0 with kind := κ } (tail1 t) false := ⟨hrow, by have := IsR.lt hI3; omega, hI3.chg hca id, by rw [tail1_size]; omega⟩
  have hwe : w3.alloc (.cells (wcells w2.heap.size { d0 with kind := κ } false).toArray 71) = w3.alloc (.cells #[.pointer (some ⟨w2.heap.size, 0, none⟩), .int .i64 κ, .string ⟨#[]⟩, .int .u64 0, .string ⟨#[]⟩, .string ⟨#[]⟩, .int .u64 0, .int .i64 0, .string ⟨#[]⟩, .int .u64 0, .int .i64 0, .int .i64 0, .bool false, .bool false, .string ⟨#[]⟩, .string ⟨#[]⟩, .bool false] 71) := rfl
  rw [hwe] at hG0 hca
  clear hwe hrow
  generalize w3.alloc (.cells #[.pointer (some ⟨w2.heap.size, 0, none⟩), .int .i64 κ, .string ⟨#[]⟩, .int .u64 0, .string ⟨#[]⟩, .string ⟨#[]⟩, .int .u64 0, .int .i64 0, .string ⟨#[]⟩, .int .u64 0, .int .i64 0, .int .i64 0, .bool false, .bool false, .string ⟨#[]⟩, .string ⟨#[]⟩, .bool false] 71) = w4 at *
  have ha4 := ha2.chg (hc3.trans hca) id
  have hb4 := hr2.chg (hc3.trans hca) id
  have HC4 := Lib.hid ((hc1.trans hc2).trans (hc3.trans hca))
  have hlt1 : w.heap.size < w2.heap.size := by have := HZ1.out; have := HZ2.out; omega
  have hlt2 : w1.heap.size < w2.heap.size := by have := HZ2.out; omega
  have hlt3 : w2.heap.size < w3.heap.size := IsR.lt hI3
  have hgt : w.heap.size < w1.heap.size := by have := HZ1.out; omega
  clear hI3 hc3 hca ha2 hr2 hc1 hc2 hr1 HZ1 HZ2
  have HWB : Hid (∀ w', Chg (fun k => k = w.heap.size ∨ k = w1.heap.size ∨ k = w2.heap.size ∨ k = w3.heap.size) w w' → Chg (fun _ => False) w w') := fun w' h => h.mono (fun k hk hk2 => by omega)
  generalize hbe : w.heap.size = b at *
  generalize hce : w1.heap.size = c at *
  generalize hre : w2.heap.size = br at *
  generalize hqe : w3.heap.size = rb at *
  clear hbe hce hre hqe w3 w2 w1
  clear he hs
  obtain ⟨RR, hRR⟩ : ∃ RR, Hid (rdF (flds κ) { d0 with kind := κ } (tail1 t) false = RR) := ⟨_, rfl⟩
  have HR := Lib.hid HR2
  rw [hRR.out] at HR
  clear HR2
  with_reducible refine (fields_any κ H12 H72 _).mono ?_
  rintro e w5 ⟨rfl, hfr, hfc⟩
  have hlt4 : rb < w4.heap.size := hG0.row.lt
  have hI0 : DecInv (flds κ) RR rb br w4.heap.size w5 0 { d0 with kind := κ } (tail1 t) false w5 := ⟨hG0.keep hfc id id, hfr, Chg.refl _ _, by rw [List.drop_zero]; exact hRR.out⟩
  have ha5 := ha4.chg hfc id
  have hb5 := hb4.chg hfc id
  have HC5 := Lib.hid (HC4.out.trans hfc)
  have hn5 := (flds_len κ).2
  clear H12 H72 HC4 ha4 hb4 hG0 hfr hfc
  generalize hfe : w4.heap.size = fb at *
  clear hfe w4
  generalize hLe : flds κ = L at *
  clear hLe
  obtain ⟨n, hn⟩ : ∃ n, Hid (L.length = n) := ⟨_, rfl⟩
  have hnd := hn.out
  rw [hnd] at hn5 ⊢
  clear hnd
  go_wp2_with (fail)
  go_loopw [51] (fun i wr => ∃ k : Nat, ∃ d' s' bad', k ≤ n ∧ i = .int .i64 k ∧ DecInv L RR rb br fb w5 k d' s' bad' wr) (fun i _ => n - (intOf i).toNat)
  case atStart => exact ⟨0, _, _, _, by omega, rfl, hI0⟩
  case round =>
    obtain ⟨k, d', s', bad', hk, rfl, hInv⟩ := hrel
    by_cases hlt : k < n
    · obtain ⟨hG, hRw, hC, hD⟩ := hInv
      have hkL : k < L.length := by rw [hn.out]; exact hlt
      have g0 : wr.cell? ⟨fb, k * 2, none⟩ = some (.func (.func (L[k]).getF) #[] #[]) := by rw [hRw.cell, Nat.mul_comm]; exact fcells_get L k hkL
      have g1 : wr.cell? ⟨fb, k * 2 + 1, none⟩ = some (.func (.func (L[k]).putF) #[] #[]) := by rw [hRw.cell, Nat.mul_comm]; exact fcells_put L k hkL
      have hltI : (k : Int) < (n : Int) := by omega
      have hcf := fun w => get_enter L[k] #[.pointer (some ⟨rb, 0, none⟩)] w
      have hla : Chg (fun _ => False) wr (wr.alloc (.cells #[.func (.func (L[k]).getF) #[] #[], .func (.func (L[k]).putF) #[] #[]] 59)) := (Chg.refl _ _).alloc _
      have HLA := Lib.hid hla
      have HG := Lib.hid (hG.keep hla id id)
      have HRw := Lib.hid (hRw.chg hla id)
      have HC := Lib.hid (hC.trans (hla.mono (fun _ _ h => h.elim)))
      have HD := Lib.hid hD
      clear hla hG hRw hC hD
      cases hT : Fld.take s' L[k] with
      | none =>
        have HT := Lib.hid hT
        clear hT
        go_wp2_with (fail)
        with_reducible refine (get_short L[k] rb br d' s' bad' HT.out _ HG.out).mono ?_
        rintro e w6 ⟨rfl, hc6⟩
        go_wp2_with (fail)
        have hRe : R = (d0, 72) := by rw [← HR.out, ← HD.out, rdF_none hkL HT.out]; rfl
        have hc5 := HC.out.trans hc6
        refine leaves_cons (f := 34) (args := #[.pointer (some ⟨b, 0, none⟩), .pointer (some ⟨c, 0, none⟩)]) (by simp) (by simp [go_sem]) ?_
        refine (catch_panicking b c d0 0 [] _ (ha5.chg hc5 (by omega)) (hb5.chg hc5 (by omega)) hne).mono ?_
        rintro e u' w7 ⟨rfl, rfl, hr7, hs7, hc7⟩
        refine ⟨_, dec_results (d := d0) (x := 72) _ _ rfl rfl hr7 (cell_hd hs7), by rw [hRe], HWB.out _ ?_⟩
        exact ((HC5.out.mono (fun _ _ h => h.elim)).trans (hc5.mono (fun k _ h => by rcases h with h | h <;> simp [h]))).trans (hc7.mono (fun k _ h => by rcases h with h | h <;> simp [h]))
      | some m =>
        have HT := Lib.hid hT
        clear hT
        go_wp2_with (fail)
        with_reducible refine (get_ok L[k] rb br d' s' bad' m HT.out _ HG.out).mono ?_
        rintro e w6 ⟨rfl, hG6, hc6⟩
        go_wp2
        go_roundw
        case rel =>
          refine ⟨k + 1, _, _, _, by omega, by go_num, hG6, HRw.out.chg hc6 (by omega), HC.out.trans hc6, ?_⟩
          rw [← HD.out]; exact (rdF_some hkL HT.out).symm
        case measure => simp [intOf]; omega
    · have hltI : ¬ (k : Int) < (n : Int) := by omega
      obtain ⟨hG, hRw, hC, hD⟩ := hInv
      rw [List.drop_eq_nil_of_le (by rw [hn.out]; omega)] at hD
      have hRe : R = decR (some (d', s', bad')) := by rw [← HR.out, ← hD]; rfl
      have c0 := hG.cell0
      have c16 := hG.c_bad
      have CL := Lib.hid (left_any br (s', 0) wr hG.rd)
      have ha6 := ha5.chg hC (by omega)
      have hb6 := hb5.chg hC (by omega)
      have HC := Lib.hid hC
      have HRe := Lib.hid hRe
      have HG := Lib.hid hG
      have hsm := hG.small
      clear hD hRe hC hG hRw hI0
      have key : ((0 : Int) < s'.size) ∨ (¬ ((0 : Int) < s'.size) ∧ bad' = true) ∨ (¬ ((0 : Int) < s'.size) ∧ bad' = false) := by
        by_cases hA : (0 : Int) < s'.size
        · exact .inl hA
        · cases bad'
          · exact .inr (.inr ⟨hA, rfl⟩)
          · exact .inr (.inl ⟨hA, rfl⟩)
      rcases key with hA | ⟨hA, rfl⟩ | ⟨hA, rfl⟩
      · go_wp2_with (first
          | (go_at_call 36; with_reducible refine CL.out.mono ?_; rintro e w' ⟨rfl, rfl⟩)
          | (refine wpList_buildA rfl 26 #[] rfl d0.cells.toArray built26 ?_)
          | (refine wpList_store_rowA rfl 26 (.tmp 2) (.tmp 67) rfl b d0.cells rfl rfl 26 d0.cells ha6 size26 rfl (cells_one d0) ?_; intro w7 hr7 hc7 hz7; clear hz7; (have q4 := cell_hd (Row.chg hb6 hc7 hne)); (have f4 := Row.frozen (Row.chg hb6 hc7 hne) 0)))
        refine leaves_cons (f := 34) (args := #[.pointer (some ⟨b, 0, none⟩), .pointer (some ⟨c, 0, none⟩)]) (by simp) (by simp [go_sem]) ?_
        refine (catch_idle b c _).mono ?_
        rintro e u' w8 ⟨rfl, rfl, rfl⟩
        refine ⟨_, dec_results (d := d0) (x := 72) _ _ rfl rfl (hr7.set_other _ (Ne.symm hne)) (cell_hd ((Row.chg hb6 hc7 hne).set 0 _)), ?_, HWB.out _ ?_⟩
        · rw [HRe.out]; simp only [decR]; rw [if_pos (by omega)]
        · exact (((HC5.out.mono (fun _ _ h => h.elim)).trans (HC.out.mono (fun k _ h => by rcases h with h | h <;> simp [h]))).trans (hc7.mono (fun k _ h => .inl h))).setCell _ _ (fun _ => .inr (.inl rfl))
      · go_wp2_with (first
          | (go_at_call 36; with_reducible refine CL.out.mono ?_; rintro e w' ⟨rfl, rfl⟩)
          | (refine wpList_buildA rfl 26 #[] rfl d0.cells.toArray built26 ?_)
          | (refine wpList_store_rowA rfl 26 (.tmp 2) (.tmp 73) rfl b d0.cells rfl rfl 26 d0.cells ha6 size26 rfl (cells_one d0) ?_; intro w7 hr7 hc7 hz7; clear hz7; (have q4 := cell_hd (Row.chg hb6 hc7 hne)); (have f4 := Row.frozen (Row.chg hb6 hc7 hne) 0)))
        refine leaves_cons (f := 34) (args := #[.pointer (some ⟨b, 0, none⟩), .pointer (some ⟨c, 0, none⟩)]) (by simp) (by simp [go_sem]) ?_
        refine (catch_idle b c _).mono ?_
        rintro e u' w8 ⟨rfl, rfl, rfl⟩
        refine ⟨_, dec_results (d := d0) (x := 73) _ _ rfl rfl (hr7.set_other _ (Ne.symm hne)) (cell_hd ((Row.chg hb6 hc7 hne).set 0 _)), ?_, HWB.out _ ?_⟩
        · rw [HRe.out]; simp only [decR]; rw [if_neg (by omega), if_pos trivial]
        · exact (((HC5.out.mono (fun _ _ h => h.elim)).trans (HC.out.mono (fun k _ h => by rcases h with h | h <;> simp [h]))).trans (hc7.mono (fun k _ h => .inl h))).setCell _ _ (fun _ => .inr (.inl rfl))
      · have q1 := HG.out.c_kind
        have q2 := HG.out.c_nonce
        have q3 := HG.out.c_epoch
        have q4 := HG.out.c_cookie
        have q5 := HG.out.c_name
        have q6 := HG.out.c_session
        have q7 := HG.out.c_player
        have q8 := HG.out.c_salt
        have q9 := HG.out.c_seq
        have q10 := HG.out.c_throttle
        have q11 := HG.out.c_turn
        have q12 := HG.out.c_fire
        have q13 := HG.out.c_boost
        have q14 := HG.out.c_data
        have q15 := HG.out.c_tag
        go_wp2_with (first
          | (go_at_call 36; with_reducible refine CL.out.mono ?_; rintro e w' ⟨rfl, rfl⟩)
          | (refine wpList_store_rowA rfl 26 (.tmp 2) (.tmp 77) rfl b d'.cells rfl rfl 26 d0.cells ha6 size26 rfl (cells_one d') ?_; intro w7 hr7 hc7 hz7; clear hz7; (have p4 := cell_hd (Row.chg hb6 hc7 hne)); (have f4 := Row.frozen (Row.chg hb6 hc7 hne) 0)))
        refine leaves_cons (f := 34) (args := #[.pointer (some ⟨b, 0, none⟩), .pointer (some ⟨c, 0, none⟩)]) (by simp) (by simp [go_sem]) ?_
        refine (catch_idle b c _).mono ?_
        rintro e u' w8 ⟨rfl, rfl, rfl⟩
        refine ⟨_, dec_results (d := d') (x := 0) _ _ rfl rfl (hr7.set_other _ (Ne.symm hne)) (cell_hd ((Row.chg hb6 hc7 hne).set 0 _)), ?_, HWB.out _ ?_⟩
        · rw [HRe.out]; simp only [decR]; rw [if_neg (by omega), if_neg (by simp)]
        · exact (((HC5.out.mono (fun _ _ h => h.elim)).trans (HC.out.mono (fun k _ h => by rcases h with h | h <;> simp [h]))).trans (hc7.mono (fun k _ h => .inl h))).setCell _ _ (fun _ => .inr (.inl rfl))

theorem bodyS_size (s : ByteArray) : (bodyS s).size ≤ s.size := by
  have h : (bodyS s).size = (Lib.trimPrefix s.data.toList [74, 48, 49]).length := by unfold bodyS; simp [ByteArray.size]
  rw [h]
  have h2 : s.size = s.data.toList.length := by rw [Array.length_toList]; rfl
  rw [h2]
  unfold Lib.trimPrefix
  split
  · simp
  · exact Nat.le_refl _
/-- frame.Decode. -/
def decode (s : ByteArray) : DG × Int :=
  if 1200 < s.size then (d0, 72) else if hasMagic s = false then (d0, 70)
  else if (bodyS s).size = 0 ∨ ¬ (1 ≤ kindB (bodyS s) ∧ kindB (bodyS s) ≤ 7) then (d0, 71)
  else decR (rdF (flds (kindB (bodyS s))) { d0 with kind := kindB (bodyS s) } (tail1 (bodyS s)) false)
theorem decode_any (s : ByteArray) (hm : s.size ≤ 9223372036854775807) (w : World) :
    Calls Tryz.prog 13 #[.string s] w fun e w' => e = .returned (.tuple #[.agg (decode s).1.cells.toArray, .int .i64 (decode s).2]) ∧ Chg (fun _ => False) w w' := by
  unfold decode
  by_cases h1 : 1200 < s.size
  · rw [if_pos h1]; exact decode_long s h1 hm w
  · rw [if_neg h1]
    by_cases h2 : hasMagic s = false
    · rw [if_pos h2]; exact decode_nomagic s (by omega) h2 w
    · rw [if_neg h2]
      have h2' : hasMagic s = true := by simpa using h2
      by_cases h3 : (bodyS s).size = 0 ∨ ¬ (1 ≤ kindB (bodyS s) ∧ kindB (bodyS s) ≤ 7)
      · rw [if_pos h3]; exact decode_nokind s (by omega) h2' h3 w
      · rw [if_neg h3]
        have hz := bodyS_size s
        exact decode_known s (by omega) h2' (by omega) (by omega) (by omega) (by omega) w _ rfl
end Go.Proofs.YtejlffeiebfboaaGreatDoor.Get

/- A datagram that comes in as an argument. -/
import Derived.Test.YtejlffeiebfboaaGreatDoorPost
import Derived.Test.YtejlffeiebfboaaGreatDoorPut
import Derived.Test.YtejlffeiebfboaaGreatDoorRows
set_option linter.unusedVariables false
set_option linter.unusedSimpArgs false
namespace Go.Proofs.YtejlffeiebfboaaGreatDoor.Law
open Go Go.RowKit Go.WideShapes Go.ChangeShapes Go.Proofs.YtejlffeiebfboaaGreatDoor.Mem Go.Proofs.YtejlffeiebfboaaGreatDoor.PackW Go.Proofs.YtejlffeiebfboaaGreatDoor.Put

/-- A datagram as data. -/
def dgData {H : Type} (d : DG) : DataW H := .agg [.lit (.int .i64 d.kind), .lit (.string d.nonce.data.toList), .lit (.int .u64 d.epoch), .lit (.string d.cookie.data.toList), .lit (.string d.name.data.toList), .lit (.int .u64 d.session), .lit (.int .i64 d.player), .lit (.string d.salt.data.toList), .lit (.int .u64 d.seq), .agg [.lit (.int .i64 d.throttle), .lit (.int .i64 d.turn), .lit (.bool d.fire), .lit (.bool d.boost)], .lit (.string d.data.data.toList), .lit (.string d.tag.data.toList)]

theorem cells1 : Tryz.prog.cellsOf 9 = 1 ∧ Tryz.prog.cellsOf 3 = 1 ∧ Tryz.prog.cellsOf 22 = 1 ∧ Tryz.prog.cellsOf 4 = 1 ∧ Tryz.prog.cellsOf 24 = 4 ∧ Tryz.prog.cellsOf 26 = 15 := ⟨by kernel_rfl, by kernel_rfl, by kernel_rfl, by kernel_rfl, by kernel_rfl, by kernel_rfl⟩

theorem wf_u64 {n : Int} (h : (Lit.int .u64 n).wf = true) : ∃ k : Nat, n = k ∧ k < 18446744073709551616 := by
  simp only [Lit.wf, Bool.and_eq_true, decide_eq_true_eq] at h
  simp [IntKind.min, IntKind.max, IntKind.signed, IntKind.bits] at h
  exact ⟨n.toNat, by omega, by omega⟩
theorem wf_i64 {n : Int} (h : (Lit.int .i64 n).wf = true) : -9223372036854775808 ≤ n ∧ n < 9223372036854775808 := by
  simp only [Lit.wf, Bool.and_eq_true, decide_eq_true_eq] at h
  simp [IntKind.min, IntKind.max, IntKind.signed, IntKind.bits] at h
  omega

set_option maxRecDepth 100000 in
set_option maxHeartbeats 2000000 in
theorem open_dg {H : Type} {enc : TypeId × Value → H} {W : World} {r : Reach} {b0 base : Nat} {sp : Nat → Bool} {held : Bool} {v : Value} {d : DataW H} {p : List MemPlace} (hv : Value.okWide Tryz.prog W r b0 26 v)
    (h : DataW.Trod enc Tryz.prog W base sp held 26 v d p) : ∃ D : DG, D.Ok ∧ v = .agg D.cells.toArray ∧ d = dgData D ∧ p = [] := by
  obtain ⟨k1, k2, k3, k4, k5, k6⟩ := cells1
  obtain ⟨cs, rfl, hsz⟩ := okWide_struct Tryz.underlying26 hv
  obtain ⟨l⟩ := cs
  match l, hsz.trans k6 with
  | [c0, c1, c2, c3, c4, c5, c6, c7, c8, c9, c10, c11, c12, c13, c14], _ =>
    obtain ⟨fuel, hf⟩ := h
    obtain ⟨xs, n, _, hx, _, hlen, hg⟩ := DataW.trod_struct Tryz.underlying26 hf
    match xs, hlen with
    | [y0, y1, y2, y3, y4, y5, y6, y7, y8, y9, y10, y11], _ =>
      simp only [Prod.mk.injEq] at hx
      have h0 : DataW.trod enc Tryz.prog W base sp held n 3 [c0] = some y0 := by have this : DataW.trod enc Tryz.prog W base sp held n 3 (([c0, c1, c2, c3, c4, c5, c6, c7, c8, c9, c10, c11, c12, c13, c14].drop 0).take (Tryz.prog.cellsOf 3)) = some y0 := hg 0 _ rfl; rw [k2] at this; exact this
      have h1 : DataW.trod enc Tryz.prog W base sp held n 9 [c1] = some y1 := by have this : DataW.trod enc Tryz.prog W base sp held n 9 (([c0, c1, c2, c3, c4, c5, c6, c7, c8, c9, c10, c11, c12, c13, c14].drop 1).take (Tryz.prog.cellsOf 9)) = some y1 := hg 1 _ rfl; rw [k1] at this; exact this
      have h2 : DataW.trod enc Tryz.prog W base sp held n 22 [c2] = some y2 := by have this : DataW.trod enc Tryz.prog W base sp held n 22 (([c0, c1, c2, c3, c4, c5, c6, c7, c8, c9, c10, c11, c12, c13, c14].drop 2).take (Tryz.prog.cellsOf 22)) = some y2 := hg 2 _ rfl; rw [k3] at this; exact this
      have h3 : DataW.trod enc Tryz.prog W base sp held n 9 [c3] = some y3 := by have this : DataW.trod enc Tryz.prog W base sp held n 9 (([c0, c1, c2, c3, c4, c5, c6, c7, c8, c9, c10, c11, c12, c13, c14].drop 3).take (Tryz.prog.cellsOf 9)) = some y3 := hg 3 _ rfl; rw [k1] at this; exact this
      have h4 : DataW.trod enc Tryz.prog W base sp held n 9 [c4] = some y4 := by have this : DataW.trod enc Tryz.prog W base sp held n 9 (([c0, c1, c2, c3, c4, c5, c6, c7, c8, c9, c10, c11, c12, c13, c14].drop 4).take (Tryz.prog.cellsOf 9)) = some y4 := hg 4 _ rfl; rw [k1] at this; exact this
      have h5 : DataW.trod enc Tryz.prog W base sp held n 22 [c5] = some y5 := by have this : DataW.trod enc Tryz.prog W base sp held n 22 (([c0, c1, c2, c3, c4, c5, c6, c7, c8, c9, c10, c11, c12, c13, c14].drop 5).take (Tryz.prog.cellsOf 22)) = some y5 := hg 5 _ rfl; rw [k3] at this; exact this
      have h6 : DataW.trod enc Tryz.prog W base sp held n 3 [c6] = some y6 := by have this : DataW.trod enc Tryz.prog W base sp held n 3 (([c0, c1, c2, c3, c4, c5, c6, c7, c8, c9, c10, c11, c12, c13, c14].drop 6).take (Tryz.prog.cellsOf 3)) = some y6 := hg 6 _ rfl; rw [k2] at this; exact this
      have h7 : DataW.trod enc Tryz.prog W base sp held n 9 [c7] = some y7 := by have this : DataW.trod enc Tryz.prog W base sp held n 9 (([c0, c1, c2, c3, c4, c5, c6, c7, c8, c9, c10, c11, c12, c13, c14].drop 7).take (Tryz.prog.cellsOf 9)) = some y7 := hg 7 _ rfl; rw [k1] at this; exact this
      have h8 : DataW.trod enc Tryz.prog W base sp held n 22 [c8] = some y8 := by have this : DataW.trod enc Tryz.prog W base sp held n 22 (([c0, c1, c2, c3, c4, c5, c6, c7, c8, c9, c10, c11, c12, c13, c14].drop 8).take (Tryz.prog.cellsOf 22)) = some y8 := hg 8 _ rfl; rw [k3] at this; exact this
      have h9 : DataW.trod enc Tryz.prog W base sp held n 24 [c9, c10, c11, c12] = some y9 := by have this : DataW.trod enc Tryz.prog W base sp held n 24 (([c0, c1, c2, c3, c4, c5, c6, c7, c8, c9, c10, c11, c12, c13, c14].drop 9).take (Tryz.prog.cellsOf 24)) = some y9 := hg 9 _ rfl; rw [k5] at this; exact this
      have h10 : DataW.trod enc Tryz.prog W base sp held n 9 [c13] = some y10 := by have this : DataW.trod enc Tryz.prog W base sp held n 9 (([c0, c1, c2, c3, c4, c5, c6, c7, c8, c9, c10, c11, c12, c13, c14].drop 13).take (Tryz.prog.cellsOf 9)) = some y10 := hg 10 _ rfl; rw [k1] at this; exact this
      have h11 : DataW.trod enc Tryz.prog W base sp held n 9 [c14] = some y11 := by have this : DataW.trod enc Tryz.prog W base sp held n 9 (([c0, c1, c2, c3, c4, c5, c6, c7, c8, c9, c10, c11, c12, c13, c14].drop 14).take (Tryz.prog.cellsOf 9)) = some y11 := hg 11 _ rfl; rw [k1] at this; exact this
      obtain ⟨zs, m, _, hz, _, hzl, hgz⟩ := DataW.trod_struct Tryz.underlying24 h9
      match zs, hzl with
      | [z0, z1, z2, z3], _ =>
        have g0 : DataW.trod enc Tryz.prog W base sp held m 3 [c9] = some z0 := by have this : DataW.trod enc Tryz.prog W base sp held m 3 (([c9, c10, c11, c12].drop 0).take (Tryz.prog.cellsOf 3)) = some z0 := hgz 0 _ rfl; rw [k2] at this; exact this
        have g1 : DataW.trod enc Tryz.prog W base sp held m 3 [c10] = some z1 := by have this : DataW.trod enc Tryz.prog W base sp held m 3 (([c9, c10, c11, c12].drop 1).take (Tryz.prog.cellsOf 3)) = some z1 := hgz 1 _ rfl; rw [k2] at this; exact this
        have g2 : DataW.trod enc Tryz.prog W base sp held m 4 [c11] = some z2 := by have this : DataW.trod enc Tryz.prog W base sp held m 4 (([c9, c10, c11, c12].drop 2).take (Tryz.prog.cellsOf 4)) = some z2 := hgz 2 _ rfl; rw [k4] at this; exact this
        have g3 : DataW.trod enc Tryz.prog W base sp held m 4 [c12] = some z3 := by have this : DataW.trod enc Tryz.prog W base sp held m 4 (([c9, c10, c11, c12].drop 3).take (Tryz.prog.cellsOf 4)) = some z3 := hgz 3 _ rfl; rw [k4] at this; exact this
        obtain ⟨a0, e0, rfl, w0⟩ := DataW.trod_int Tryz.underlying3 h0
        obtain ⟨a1, e1, rfl, w1⟩ := DataW.trod_string Tryz.underlying9 h1
        obtain ⟨a2, e2, rfl, w2⟩ := DataW.trod_int Tryz.underlying22 h2
        obtain ⟨a3, e3, rfl, w3⟩ := DataW.trod_string Tryz.underlying9 h3
        obtain ⟨a4, e4, rfl, w4⟩ := DataW.trod_string Tryz.underlying9 h4
        obtain ⟨a5, e5, rfl, w5⟩ := DataW.trod_int Tryz.underlying22 h5
        obtain ⟨a6, e6, rfl, w6⟩ := DataW.trod_int Tryz.underlying3 h6
        obtain ⟨a7, e7, rfl, w7⟩ := DataW.trod_string Tryz.underlying9 h7
        obtain ⟨a8, e8, rfl, w8⟩ := DataW.trod_int Tryz.underlying22 h8
        obtain ⟨a9, e9, rfl, w9⟩ := DataW.trod_int Tryz.underlying3 g0
        obtain ⟨a10, e10, rfl, w10⟩ := DataW.trod_int Tryz.underlying3 g1
        obtain ⟨a11, e11, rfl⟩ := DataW.trod_bool Tryz.underlying4 g2
        obtain ⟨a12, e12, rfl⟩ := DataW.trod_bool Tryz.underlying4 g3
        obtain ⟨a13, e13, rfl, w13⟩ := DataW.trod_string Tryz.underlying9 h10
        obtain ⟨a14, e14, rfl, w14⟩ := DataW.trod_string Tryz.underlying9 h11
        obtain ⟨n2, rfl, b2⟩ := wf_u64 w2
        obtain ⟨n5, rfl, b5⟩ := wf_u64 w5
        obtain ⟨n8, rfl, b8⟩ := wf_u64 w8
        simp only [List.cons.injEq, and_true] at e0 e1 e2 e3 e4 e5 e6 e7 e8 e9 e10 e11 e12 e13 e14
        subst e0 e1 e2 e3 e4 e5 e6 e7 e8 e9 e10 e11 e12 e13 e14
        refine ⟨⟨a0, a1, n2, a3, a4, n5, a6, a7, n8, a9, a10, a11, a12, a13, a14⟩, ⟨b2, b5, b8, wf_i64 w0, wf_i64 w6, wf_i64 w9, wf_i64 w10⟩, rfl, ?_, ?_⟩
        · rw [hx.1, hz]; rfl
        · rw [hx.2, hz]; rfl

/-- What the bound of the second form gives of a datagram. -/
theorem dg_bulk {H : Type} (d : DG) : Rows.uptoBulk (dgData (H := H) d) = d.nonce.size + d.cookie.size + d.name.size + d.salt.size + d.data.size + d.tag.size + 17 := by
  have e : ∀ s : ByteArray, s.data.size = s.size := fun _ => rfl
  simp only [dgData, Rows.uptoBulk, Rows.uptoBulkAll, Array.length_toList, e]
  omega
theorem str_bulk {H : Type} (s : ByteArray) : Rows.uptoBulk (DataW.lit (H := H) (.string s.data.toList)) = s.size + 1 := by
  simp only [Rows.uptoBulk, Array.length_toList]; rfl
end Go.Proofs.YtejlffeiebfboaaGreatDoor.Law

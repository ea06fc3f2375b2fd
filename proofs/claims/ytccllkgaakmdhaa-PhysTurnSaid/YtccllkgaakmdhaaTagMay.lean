/- tag.May, Pack, Unpack, and the document's. -/
import Derived.Test.YtccllkgaakmdhaaTagP
namespace Go.Proofs.Ytccllkgaakmdhaa
open Go.RowKit

theorem row3 {w : World} {m : Nat} {a b c : Value} {T : TypeId} (h : w.heap[m]? = some (.cells #[a, b, c] T (0, 0))) : w.cell? ⟨m, 0, none⟩ = some a ∧ w.cell? ⟨m, 1, none⟩ = some b ∧ w.cell? ⟨m, 2, none⟩ = some c :=
  ⟨by simp [World.cell?, h], by simp [World.cell?, h], by simp [World.cell?, h]⟩
theorem TagV.cells_def (s : UInt64) (u : Bool) (o : Int) : TagV.cells ⟨s, u, o⟩ = #[.int .u64 (s.toNat : Int), .bool u, .int .i64 o] := rfl

set_option maxRecDepth 100000 in
theorem tag_eq (a c : Int) (b d : Bool) (i j : Int) (w : World) : (Op.equalIn 10000 70 (.agg #[.int .u64 a, .bool b, .int .i64 i]) (.agg #[.int .u64 c, .bool d, .int .i64 j])).run Try.prog w = .ok ((a == c) && ((b == d) && ((i == j) && true))) w := by
  refine equalIn_fields (d := 9999) Try.underlying70 (by kernel_rfl) ?_
  refine eqFields_one (by decide) (a := .int .u64 a) (b := .int .u64 c) (by kernel_rfl) (by kernel_rfl) (equalIn_int (d := 9998) Try.underlying36) ?_
  refine eqFields_one (by decide) (a := .bool b) (b := .bool d) (by kernel_rfl) (by kernel_rfl) (equalIn_bool (d := 9998) Try.underlying4) ?_
  exact eqFields_one (by decide) (a := .int .i64 i) (b := .int .i64 j) (by kernel_rfl) (by kernel_rfl) (equalIn_int (d := 9998) Try.underlying3) eqFields_none
theorem tag_eql (a c : Int) (b d : Bool) (i j : Int) (w : World) : (binOp .eql 70 (.agg #[.int .u64 a, .bool b, .int .i64 i]) (.agg #[.int .u64 c, .bool d, .int .i64 j])).run Try.prog w = .ok (.bool ((a == c) && ((b == d) && (i == j)))) w := by
  rw [run_eql_struct, tag_eq]; simp [Result.andThen]
theorem tag_neq (a c : Int) (b d : Bool) (i j : Int) (w : World) : (binOp .neq 70 (.agg #[.int .u64 a, .bool b, .int .i64 i]) (.agg #[.int .u64 c, .bool d, .int .i64 j])).run Try.prog w = .ok (.bool (!((a == c) && ((b == d) && (i == j))))) w := by
  rw [run_neq_struct, tag_eq]; simp [Result.andThen]
theorem tag_gd : Try.prog.eqGuardType Try.prog.depth 70 = false := by kernel_rfl

set_option maxRecDepth 100000 in
theorem rtag_eq (a c : Int) (b d : Bool) (i j : Int) (w : World) : (Op.equalIn 10000 69 (.agg #[.int .u64 a, .bool b, .int .i64 i]) (.agg #[.int .u64 c, .bool d, .int .i64 j])).run Try.prog w = .ok ((a == c) && ((b == d) && ((i == j) && true))) w := by
  refine equalIn_fields (d := 9999) Try.underlying69 (by kernel_rfl) ?_
  refine eqFields_one (by decide) (a := .int .u64 a) (b := .int .u64 c) (by kernel_rfl) (by kernel_rfl) (equalIn_int (d := 9998) Try.underlying36) ?_
  refine eqFields_one (by decide) (a := .bool b) (b := .bool d) (by kernel_rfl) (by kernel_rfl) (equalIn_bool (d := 9998) Try.underlying4) ?_
  exact eqFields_one (by decide) (a := .int .i64 i) (b := .int .i64 j) (by kernel_rfl) (by kernel_rfl) (equalIn_int (d := 9998) Try.underlying3) eqFields_none
theorem rtag_eql (a c : Int) (b d : Bool) (i j : Int) (w : World) : (binOp .eql 69 (.agg #[.int .u64 a, .bool b, .int .i64 i]) (.agg #[.int .u64 c, .bool d, .int .i64 j])).run Try.prog w = .ok (.bool ((a == c) && ((b == d) && (i == j)))) w := by
  rw [run_eql_struct, rtag_eq]; simp [Result.andThen]
theorem rtag_neq (a c : Int) (b d : Bool) (i j : Int) (w : World) : (binOp .neq 69 (.agg #[.int .u64 a, .bool b, .int .i64 i]) (.agg #[.int .u64 c, .bool d, .int .i64 j])).run Try.prog w = .ok (.bool (!((a == c) && ((b == d) && (i == j))))) w := by
  rw [run_neq_struct, rtag_eq]; simp [Result.andThen]
theorem rtag_gd : Try.prog.eqGuardType Try.prog.depth 69 = false := by kernel_rfl

set_option maxHeartbeats 1000000 in
theorem May_any (w : World) (g : TagV) : Calls Try.prog 63 #[.agg g.cells] w fun e w' => e = .returned (.bool (mayT g)) ∧ w' = w.alloc (.cells g.cells 70) := by
  obtain ⟨s, u, o⟩ := g
  rw [TagV.cells_def]
  obtain ⟨n, hn⟩ : ∃ n, n = s.toNat := ⟨_, rfl⟩
  have hm : mayT ⟨s, u, o⟩ = decide (n % 16 = 0 ∧ 48 ≤ n ∧ n ≤ 1048576 ∧ 0 ≤ o ∧ o ≤ 8 ∧ (u = true ∨ o = 0)) := by rw [hn]; rfl
  have hlt : n < 18446744073709551616 := by rw [hn]; exact s.toNat_lt
  rw [hm, ← hn]
  clear hm hn
  have e1 : IntKind.u64.wrap ((n : Int) % 16) = (n : Int) % 16 := IntWalk.u64_in _ (by omega)
  have e2 : IntKind.u64.wrap ((n : Int).tmod 16) = (n : Int) % 16 := by rw [Int.tmod_eq_emod_of_nonneg (by omega)]; exact e1
  by_cases h0 : n % 16 = 0
  · have k0 : (n : Int) % 16 = 0 := by omega
    by_cases h1 : 48 ≤ n
    · have k1 : (48 : Int) ≤ (n : Int) := by omega
      by_cases h2 : n ≤ 1048576
      · have k2 : (n : Int) ≤ 1048576 := by omega
        by_cases h3 : 0 ≤ o
        · have k3 : 0 ≤ o := by omega
          by_cases h4 : o ≤ 8
          · have k4 : o ≤ 8 := by omega
            cases u with
            | true =>
              rw [decide_eq_true (by exact ⟨h0, h1, h2, h3, h4, .inl rfl⟩)]
              clear h0 h1 h2 h3 h4
              go_enter Try.func63, Try.ntmps63
              go_wp2_with fail
              go_ret
              exact ⟨rfl, rfl⟩
            | false =>
              by_cases h5 : o = 0
              · subst h5
                rw [decide_eq_true (by exact ⟨h0, h1, h2, h3, h4, .inr rfl⟩)]
                clear h0 h1 h2
                go_enter Try.func63, Try.ntmps63
                go_wp2_with fail
                go_ret
                exact ⟨rfl, rfl⟩
              · have k5 : (o == 0) = false := by rw [beq_eq_false_iff_ne]; exact h5
                rw [decide_eq_false (fun h => h.2.2.2.2.2.elim (fun e => by cases e) h5)]
                clear h0 h1 h2 h3 h4 h5
                go_enter Try.func63, Try.ntmps63
                go_wp2_with fail
                go_ret
                exact ⟨rfl, rfl⟩
          · have k4 : ¬ o ≤ 8 := by omega
            rw [decide_eq_false (fun h => h4 h.2.2.2.2.1)]
            clear h0 h1 h2 h3 h4
            go_enter Try.func63, Try.ntmps63
            go_wp2_with fail
            go_ret
            exact ⟨rfl, rfl⟩
        · have k3 : ¬ 0 ≤ o := by omega
          rw [decide_eq_false (fun h => h3 h.2.2.2.1)]
          clear h0 h1 h2 h3
          go_enter Try.func63, Try.ntmps63
          go_wp2_with fail
          go_ret
          exact ⟨rfl, rfl⟩
      · have k2 : ¬ (n : Int) ≤ 1048576 := by omega
        rw [decide_eq_false (fun h => h2 h.2.2.1)]
        clear h0 h1 h2
        go_enter Try.func63, Try.ntmps63
        go_wp2_with fail
        go_ret
        exact ⟨rfl, rfl⟩
    · have k1 : ¬ (48 : Int) ≤ (n : Int) := by omega
      rw [decide_eq_false (fun h => h1 h.2.1)]
      clear h0 h1
      go_enter Try.func63, Try.ntmps63
      go_wp2_with fail
      go_ret
      exact ⟨rfl, rfl⟩
  · have k0 : ((n : Int) % 16 == 0) = false := by rw [beq_eq_false_iff_ne]; omega
    rw [decide_eq_false (fun h => h0 h.1)]
    clear h0
    go_enter Try.func63, Try.ntmps63
    go_wp2_with fail
    go_ret
    exact ⟨rfl, rfl⟩
set_option maxHeartbeats 1000000 in
theorem rMay5_any (w : World) (g : TagV) : Calls Try.prog 65 #[.agg g.cells] w fun e w' => e = .returned (.bool (mayT g)) ∧ w' = w.alloc (.cells g.cells 69) := by
  obtain ⟨s, u, o⟩ := g
  rw [TagV.cells_def]
  obtain ⟨n, hn⟩ : ∃ n, n = s.toNat := ⟨_, rfl⟩
  have hm : mayT ⟨s, u, o⟩ = decide (n % 16 = 0 ∧ 48 ≤ n ∧ n ≤ 1048576 ∧ 0 ≤ o ∧ o ≤ 8 ∧ (u = true ∨ o = 0)) := by rw [hn]; rfl
  have hlt : n < 18446744073709551616 := by rw [hn]; exact s.toNat_lt
  rw [hm, ← hn]
  clear hm hn
  have e1 : IntKind.u64.wrap ((n : Int) % 16) = (n : Int) % 16 := IntWalk.u64_in _ (by omega)
  have e2 : IntKind.u64.wrap ((n : Int).tmod 16) = (n : Int) % 16 := by rw [Int.tmod_eq_emod_of_nonneg (by omega)]; exact e1
  by_cases h0 : n % 16 = 0
  · have k0 : (n : Int) % 16 = 0 := by omega
    by_cases h1 : 48 ≤ n
    · have k1 : (48 : Int) ≤ (n : Int) := by omega
      by_cases h2 : n ≤ 1048576
      · have k2 : (n : Int) ≤ 1048576 := by omega
        by_cases h3 : 0 ≤ o
        · have k3 : 0 ≤ o := by omega
          by_cases h4 : o ≤ 8
          · have k4 : o ≤ 8 := by omega
            cases u with
            | true =>
              rw [decide_eq_true (by exact ⟨h0, h1, h2, h3, h4, .inl rfl⟩)]
              clear h0 h1 h2 h3 h4
              go_enter Try.func65, Try.ntmps65
              go_wp2_with fail
              go_ret
              exact ⟨rfl, rfl⟩
            | false =>
              by_cases h5 : o = 0
              · subst h5
                rw [decide_eq_true (by exact ⟨h0, h1, h2, h3, h4, .inr rfl⟩)]
                clear h0 h1 h2
                go_enter Try.func65, Try.ntmps65
                go_wp2_with fail
                go_ret
                exact ⟨rfl, rfl⟩
              · have k5 : (o == 0) = false := by rw [beq_eq_false_iff_ne]; exact h5
                rw [decide_eq_false (fun h => h.2.2.2.2.2.elim (fun e => by cases e) h5)]
                clear h0 h1 h2 h3 h4 h5
                go_enter Try.func65, Try.ntmps65
                go_wp2_with fail
                go_ret
                exact ⟨rfl, rfl⟩
          · have k4 : ¬ o ≤ 8 := by omega
            rw [decide_eq_false (fun h => h4 h.2.2.2.2.1)]
            clear h0 h1 h2 h3 h4
            go_enter Try.func65, Try.ntmps65
            go_wp2_with fail
            go_ret
            exact ⟨rfl, rfl⟩
        · have k3 : ¬ 0 ≤ o := by omega
          rw [decide_eq_false (fun h => h3 h.2.2.2.1)]
          clear h0 h1 h2 h3
          go_enter Try.func65, Try.ntmps65
          go_wp2_with fail
          go_ret
          exact ⟨rfl, rfl⟩
      · have k2 : ¬ (n : Int) ≤ 1048576 := by omega
        rw [decide_eq_false (fun h => h2 h.2.2.1)]
        clear h0 h1 h2
        go_enter Try.func65, Try.ntmps65
        go_wp2_with fail
        go_ret
        exact ⟨rfl, rfl⟩
    · have k1 : ¬ (48 : Int) ≤ (n : Int) := by omega
      rw [decide_eq_false (fun h => h1 h.2.1)]
      clear h0 h1
      go_enter Try.func65, Try.ntmps65
      go_wp2_with fail
      go_ret
      exact ⟨rfl, rfl⟩
  · have k0 : ((n : Int) % 16 == 0) = false := by rw [beq_eq_false_iff_ne]; omega
    rw [decide_eq_false (fun h => h0 h.1)]
    clear h0
    go_enter Try.func65, Try.ntmps65
    go_wp2_with fail
    go_ret
    exact ⟨rfl, rfl⟩
theorem or_high (n k : Nat) (h : n < 4294967296) : n ||| k * 4294967296 = n + k * 4294967296 := by
  have := Nat.shiftLeft_add_eq_or_of_lt (i := 32) h k
  rw [Nat.shiftLeft_eq] at this
  rw [Nat.or_comm, Nat.add_comm]
  exact this.symm
theorem or_one (n : Nat) (h : n % 2 = 0) : n ||| 1 = n + 1 := by
  have := Nat.shiftLeft_add_eq_or_of_lt (i := 1) (b := 1) (by decide) (n / 2)
  rw [Nat.shiftLeft_eq, show n / 2 * 2 ^ 1 = n by omega] at this
  exact this.symm

set_option maxHeartbeats 1000000 in
theorem Pack_any (w : World) (g : TagV) : Calls Try.prog 66 #[.agg g.cells] w fun e w' => e = .returned (.int .u64 ((packU g).toNat : Int)) ∧ Keeps Nil w w' := by
  have HM := Lib.hid (fun w => May_any w g)
  have hk : Keeps Nil w ((w.alloc (.cells g.cells 70)).alloc (.cells g.cells 70)) := ((Keeps.refl Nil w).alloc _).alloc _
  have HK := Lib.hid hk
  clear hk
  cases hm : mayT g with
  | false =>
    rw [pack_no hm]
    have HMM := Lib.hid hm
    clear hm
    obtain ⟨s, u, o⟩ := g
    rw [TagV.cells_def] at HM HK ⊢
    go_enter Try.func66, Try.ntmps66
    go_wp2_with fail
    refine (HM.out _).mono ?_
    rintro e w' ⟨rfl, rfl⟩
    rw [HMM.out]
    go_wp2_with fail
    go_ret
    exact ⟨rfl, HK.out⟩
  | true =>
    have hp := pack_toNat hm
    obtain ⟨h1, h2, h3, h4, h5, h6⟩ := may_spec hm
    have HMM := Lib.hid hm
    clear hm
    obtain ⟨s, u, o⟩ := g
    rw [TagV.cells_def] at HM HK ⊢
    obtain ⟨n, hn⟩ : ∃ n, n = s.toNat := ⟨_, rfl⟩
    obtain ⟨k, rfl⟩ : ∃ k : Nat, o = (k : Int) := ⟨o.toNat, by simp only at h4; omega⟩
    have hp' : ((packU ⟨s, u, k⟩).toNat : Int) = (n : Int) + (k : Int) * 4294967296 + (bitOf u : Int) := by rw [hp, hn]; simp [packN]
    simp only at h1 h2 h3 h5
    rw [← hn] at HM HK h1 h2 h3 ⊢
    have h5' : k ≤ 8 := by omega
    have HP := Lib.hid hp'
    clear hp hp' h6 h4 h5 hn
    cases u with
    | true =>
      have e1 : IntKind.u64.wrap (k : Int) = (k : Int) := IntWalk.u64_in _ (by omega)
      have e2 : IntKind.u64.wrap ((k : Int) * 4294967296) = (k : Int) * 4294967296 := IntWalk.u64_in _ (by omega)
      have e3 : bits .or .u64 (n : Int) ((k : Int) * 4294967296) = (n : Int) + (k : Int) * 4294967296 := by
        have := u64_or_nat n (k * 4294967296) (by omega) (by omega)
        rw [or_high n k (by omega)] at this
        simpa using this
      have e4 : bits .or .u64 ((n : Int) + (k : Int) * 4294967296) 1 = (n : Int) + (k : Int) * 4294967296 + 1 := by
        have := u64_or_nat (n + k * 4294967296) 1 (by omega) (by omega)
        rw [or_one _ (by omega)] at this
        simpa using this
      clear h1 h2
      go_enter Try.func66, Try.ntmps66
      go_wp2_with fail
      refine (HM.out _).mono ?_
      rintro e w' ⟨rfl, rfl⟩
      rw [HMM.out]
      go_wp2_with fail
      go_ret
      exact ⟨by rw [HP.out]; rfl, HK.out⟩
    | false =>
      have e1 : IntKind.u64.wrap (k : Int) = (k : Int) := IntWalk.u64_in _ (by omega)
      have e2 : IntKind.u64.wrap ((k : Int) * 4294967296) = (k : Int) * 4294967296 := IntWalk.u64_in _ (by omega)
      have e3 : bits .or .u64 (n : Int) ((k : Int) * 4294967296) = (n : Int) + (k : Int) * 4294967296 := by
        have := u64_or_nat n (k * 4294967296) (by omega) (by omega)
        rw [or_high n k (by omega)] at this
        simpa using this
      have e4 : bits .or .u64 ((n : Int) + (k : Int) * 4294967296) 1 = (n : Int) + (k : Int) * 4294967296 + 1 := by
        have := u64_or_nat (n + k * 4294967296) 1 (by omega) (by omega)
        rw [or_one _ (by omega)] at this
        simpa using this
      clear h1 h2
      go_enter Try.func66, Try.ntmps66
      go_wp2_with fail
      refine (HM.out _).mono ?_
      rintro e w' ⟨rfl, rfl⟩
      rw [HMM.out]
      go_wp2_with fail
      go_ret
      exact ⟨by rw [HP.out]; simp [bitOf], HK.out⟩
set_option maxHeartbeats 1000000 in
theorem rPack_any (w : World) (g : TagV) : Calls Try.prog 67 #[.agg g.cells] w fun e w' => e = .returned (.int .u64 ((packU g).toNat : Int)) ∧ Keeps Nil w w' := by
  have HM := Lib.hid (fun w => rMay5_any w g)
  have hk : Keeps Nil w ((w.alloc (.cells g.cells 69)).alloc (.cells g.cells 69)) := ((Keeps.refl Nil w).alloc _).alloc _
  have HK := Lib.hid hk
  clear hk
  cases hm : mayT g with
  | false =>
    rw [pack_no hm]
    have HMM := Lib.hid hm
    clear hm
    obtain ⟨s, u, o⟩ := g
    rw [TagV.cells_def] at HM HK ⊢
    go_enter Try.func67, Try.ntmps67
    go_wp2_with fail
    refine (HM.out _).mono ?_
    rintro e w' ⟨rfl, rfl⟩
    rw [HMM.out]
    go_wp2_with fail
    go_ret
    exact ⟨rfl, HK.out⟩
  | true =>
    have hp := pack_toNat hm
    obtain ⟨h1, h2, h3, h4, h5, h6⟩ := may_spec hm
    have HMM := Lib.hid hm
    clear hm
    obtain ⟨s, u, o⟩ := g
    rw [TagV.cells_def] at HM HK ⊢
    obtain ⟨n, hn⟩ : ∃ n, n = s.toNat := ⟨_, rfl⟩
    obtain ⟨k, rfl⟩ : ∃ k : Nat, o = (k : Int) := ⟨o.toNat, by simp only at h4; omega⟩
    have hp' : ((packU ⟨s, u, k⟩).toNat : Int) = (n : Int) + (k : Int) * 4294967296 + (bitOf u : Int) := by rw [hp, hn]; simp [packN]
    simp only at h1 h2 h3 h5
    rw [← hn] at HM HK h1 h2 h3 ⊢
    have h5' : k ≤ 8 := by omega
    have HP := Lib.hid hp'
    clear hp hp' h6 h4 h5 hn
    cases u with
    | true =>
      have e1 : IntKind.u64.wrap (k : Int) = (k : Int) := IntWalk.u64_in _ (by omega)
      have e2 : IntKind.u64.wrap ((k : Int) * 4294967296) = (k : Int) * 4294967296 := IntWalk.u64_in _ (by omega)
      have e3 : IntKind.u64.wrap ((n : Int) + (k : Int) * 4294967296) = (n : Int) + (k : Int) * 4294967296 := IntWalk.u64_in _ (by omega)
      have e4 : IntKind.u64.wrap ((n : Int) + (k : Int) * 4294967296 + 1) = (n : Int) + (k : Int) * 4294967296 + 1 := IntWalk.u64_in _ (by omega)
      clear h1 h2
      go_enter Try.func67, Try.ntmps67
      go_wp2_with fail
      refine (HM.out _).mono ?_
      rintro e w' ⟨rfl, rfl⟩
      rw [HMM.out]
      go_wp2_with fail
      go_ret
      exact ⟨by rw [HP.out]; rfl, HK.out⟩
    | false =>
      have e1 : IntKind.u64.wrap (k : Int) = (k : Int) := IntWalk.u64_in _ (by omega)
      have e2 : IntKind.u64.wrap ((k : Int) * 4294967296) = (k : Int) * 4294967296 := IntWalk.u64_in _ (by omega)
      have e3 : IntKind.u64.wrap ((n : Int) + (k : Int) * 4294967296) = (n : Int) + (k : Int) * 4294967296 := IntWalk.u64_in _ (by omega)
      have e4 : IntKind.u64.wrap ((n : Int) + (k : Int) * 4294967296 + 1) = (n : Int) + (k : Int) * 4294967296 + 1 := IntWalk.u64_in _ (by omega)
      clear h1 h2
      go_enter Try.func67, Try.ntmps67
      go_wp2_with fail
      refine (HM.out _).mono ?_
      rintro e w' ⟨rfl, rfl⟩
      rw [HMM.out]
      go_wp2_with fail
      go_ret
      exact ⟨by rw [HP.out]; simp [bitOf], HK.out⟩
end Go.Proofs.Ytccllkgaakmdhaa

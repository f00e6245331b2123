/- The statement DigestHex: the document's functions, and the statement's. -/
import Derived.Test.YtlagdcbgkfaheaaD6
import Derived.Test.YtlagdcbgkfaheaaC1
set_option maxRecDepth 100000
set_option linter.unusedVariables false
set_option linter.unusedSimpArgs false
namespace Go.Abs
open Go Go.Proofs Dig
attribute [local irreducible] ibits byteAt strLt firstIdx

theorem u64_div16 (n : Nat) (h : n < 18446744073709551616) : IntKind.u64.wrap ((n : Int).tdiv 16) = ((n / 16 : Nat) : Int) := by
  rw [wrap_u64, Int.tdiv_eq_ediv_of_nonneg (Int.natCast_nonneg _)]
  omega
theorem tmod16 (n : Nat) : ((n : Int)).tmod 16 = ((n % 16 : Nat) : Int) := by
  rw [Int.tmod_eq_emod_of_nonneg (Int.natCast_nonneg _)]; omega

theorem refHex_calls (h : U) {R} (k : ∀ d, d = ofB (hexB h) → R (.val (.string d)) []) : ACalls Try.prog 24 [uv h] [] R := by
  refine acalls_of_xwp (an := an24) tab_ok Try.func24 ?_
  (conv => whnf)
  refine LoopP.ind3 (fun (i n : Nat) (s : B) => [(0, .val (.int .u64 n)), (3, .val (.string (ofB s))), (4, .val (.int .i64 i))]) (fun _ _ _ => []) (fun i _ _ => 16 - i)
    (fun i n s => i ≤ 16 ∧ n = h.toNat / 16 ^ i ∧ s = hexL h.toNat i) 0 h.toNat [] rfl ⟨by simp, by simp, rfl⟩ ?_
  rintro i n s ⟨h1, h2, h3⟩ IH
  have hn : n < 18446744073709551616 := by have := h.isLt; have := Nat.div_le_self h.toNat (16 ^ i); omega
  have hs : s.length = i := by rw [h3, hexL_length]
  have hsz : (ofB s).size = i := by rw [size_ofB, hs]
  (conv => whnf)
  refine br_intro (fun hc => ?_) (fun hc => ?_)
  · have hc : i < 16 := by simp at hc; omega
    (conv => whnf)
    rw [tmod16, wrap_u64]
    have e1 : (((n % 16 : Nat) : Int) + 1) % 18446744073709551616 = ((n % 16 + 1 : Nat) : Int) := by omega
    rw [e1]
    refine must_intro (decide_eq_true (by omega)) ?_
    refine must_intro (decide_eq_true (by show ((n % 16 + 1 : Nat) : Int) ≤ 16; omega)) ?_
    have e2 : (ByteArray.extract { data := #[48, 49, 50, 51, 52, 53, 54, 55, 56, 57, 97, 98, 99, 100, 101, 102] } ((n % 16 : Nat) : Int).toNat ((n % 16 + 1 : Nat) : Int).toNat) = ofB [hexc (n % 16)] := by
      rw [Int.toNat_natCast, Int.toNat_natCast]
      have key : (List.range 16).all (fun d => decide (ByteArray.extract { data := #[48, 49, 50, 51, 52, 53, 54, 55, 56, 57, 97, 98, 99, 100, 101, 102] } d (d + 1) = ofB [hexc d])) = true := by decide +kernel
      have := List.all_eq_true.1 key (n % 16) (List.mem_range.2 (Nat.mod_lt _ (by omega)))
      simpa using this
    rw [e2]
    (conv => whnf)
    refine must_intro (decide_eq_true (by rw [hsz, size_ofB]; simp; omega)) ?_
    rw [ofB_append]
    (conv => whnf)
    rw [u64_div16 n hn, wrap_i64 (by omega) (by omega)]
    refine IH (i + 1) (n / 16) ([hexc (n % 16)] ++ s) ⟨by omega, ?_, ?_⟩ (by omega)
    · rw [h2, Nat.pow_succ, Nat.div_div_eq_div_mul]
    · rw [h3, h2]; rfl
  · have hc : i = 16 := by simp at hc; omega
    subst hc
    (conv => whnf)
    exact k _ (by rw [h3]; rfl)

theorem hexv_num {c : UInt8} (h : 48 ≤ c.toNat ∧ c.toNat ≤ 57) : hexv c = some (c.toNat - 48) := by simp [hexv, h]
theorem hexv_let {c : UInt8} (h : 97 ≤ c.toNat ∧ c.toNat ≤ 102) : hexv c = some (c.toNat - 87) := by
  unfold hexv
  rw [if_neg (by omega), if_pos h]
theorem hexv_none {c : UInt8} (h1 : ¬ (48 ≤ c.toNat ∧ c.toNat ≤ 57)) (h2 : ¬ (97 ≤ c.toNat ∧ c.toNat ≤ 102)) : hexv c = none := by
  unfold hexv
  rw [if_neg h1, if_neg h2]
theorem wrap_u8 (x : Int) : IntKind.u8.wrap x = x % 256 := by
  simp [IntKind.wrap, IntKind.signed, IntKind.bits]

theorem refRead_calls (s : B) (hs : s.length ≤ 1000000) {R} (k : ∀ o, o = readB s → R (vread o) []) : ACalls Try.prog 22 [.val (.string (ofB s))] [] R := by
  refine acalls_of_xwp (an := an22) tab_ok Try.func22 ?_
  have hsz : (ofB s).size = s.length := size_ofB s
  (conv => whnf)
  refine br_intro (fun hc => ?_) (fun hc => ?_)
  · (conv => whnf)
    refine k none ?_
    unfold readB
    rw [if_neg]
    simp at hc
    omega
  have hl : s.length = 16 := by simp at hc; omega
  (conv => whnf)
  refine LoopP.ind2 (fun (i n : Nat) => [(4, .val (.int .u64 n)), (5, .val (.int .i64 i))]) (fun _ _ => []) (fun i _ => s.length - i)
    (fun i n => i ≤ s.length ∧ n < 18446744073709551616 ∧ readW (s.drop i) n = readW s 0) 0 0 rfl ⟨by simp, by simp, by simp⟩ ?_
  rintro i n ⟨h1, h2, h3⟩ IH
  have next : ∀ (hc : i < s.length) (d : Nat), hexv s[i] = some d → ∀ x : Int, x = ((d : Nat) : Int) → (∀ y : Int, y = (((16 * n + d) % 18446744073709551616 : Nat) : Int) → IntKind.u64.wrap (IntKind.u64.wrap (16 * (n : Int)) + x) = y) := by
    intro hc d hd x hx y hy
    subst hx hy
    rw [wrap_u64, wrap_u64]
    omega
  (conv => whnf)
  refine br_intro (fun hc => ?_) (fun hc => ?_)
  · have hc : i < s.length := by simp at hc; omega
    rw [List.drop_eq_getElem_cons hc] at h3
    have hb : byteAt (ofB s) ((i : Int)).toNat = ((s[i]).toNat : Int) := by rw [Int.toNat_natCast, byteAt_ofB s hc]
    have hlt : (s[i]).toNat < 256 := (s[i]).toNat_lt
    (conv => whnf)
    refine must_intro (decide_eq_true (by omega)) ?_
    try rw [hb]
    (conv => whnf)
    have done : ∀ (d : Nat), hexv s[i] = some d → readW (s.drop (i + 1)) ((16 * n + d) % 18446744073709551616) = readW s 0 := by
      intro d hd
      rw [← h3]; simp only [readW, hd]
    have noneR : hexv s[i] = none → R (vread none) [] := by
      intro hn
      refine k none ?_
      rw [readB_W s hl, ← h3]
      simp only [readW, hn, Option.map_none]
    have fin : ∀ d : Nat, hexv s[i] = some d → IntKind.i64.wrap ((i : Int) + 1) = ((i + 1 : Nat) : Int) ∧ IntKind.u64.wrap (IntKind.u64.wrap (16 * (n : Int)) + (d : Int)) = (((16 * n + d) % 18446744073709551616 : Nat) : Int) := by
      intro d hd
      exact ⟨wrap_i64 (by omega) (by omega), next hc d hd _ rfl _ rfl⟩
    by_cases c1 : 48 ≤ (s[i]).toNat ∧ (s[i]).toNat ≤ 57
    · have hd := hexv_num c1
      refine br_true (by simp; omega) ?_
      (conv => whnf); (repeat ((with_reducible refine must_intro ?_ ?_); exact decide_eq_true (by omega); (conv => whnf)))
      try rw [hb]
      refine br_true (by simp; omega) ?_
      (conv => whnf)
      refine must_intro (decide_eq_true (by omega)) ?_
      (conv => whnf)
      rw [hb, wrap_u8, wrap_u64]
      have e1 : (((s[i]).toNat : Int) - 48) % 256 % 18446744073709551616 = (((s[i]).toNat - 48 : Nat) : Int) := by omega
      rw [e1]
      obtain ⟨d, hdd⟩ : ∃ d, d = (s[i]).toNat - 48 := ⟨_, rfl⟩
      rw [← hdd] at hd ⊢
      (conv => whnf); (repeat ((with_reducible refine must_intro ?_ ?_); exact decide_eq_true (by omega); (conv => whnf)))
      try rw [hb]
      refine br_false (by simp; omega) ?_
      (conv => whnf)
      refine br_false (by simp; omega) ?_
      (conv => whnf)
      rw [(fin d hd).1, (fin d hd).2]
      exact IH (i + 1) _ ⟨by omega, by omega, done _ hd⟩ (by omega)
    · by_cases c2 : 97 ≤ (s[i]).toNat ∧ (s[i]).toNat ≤ 102
      · have hd := hexv_let c2
        refine br_true (by simp; omega) ?_
        (conv => whnf); (repeat ((with_reducible refine must_intro ?_ ?_); exact decide_eq_true (by omega); (conv => whnf)))
        try rw [hb]
        refine br_false (by simp; omega) ?_
        (conv => whnf); (repeat ((with_reducible refine must_intro ?_ ?_); exact decide_eq_true (by omega); (conv => whnf)))
        try rw [hb]
        refine br_true (by simp; omega) ?_
        (conv => whnf); (repeat ((with_reducible refine must_intro ?_ ?_); exact decide_eq_true (by omega); (conv => whnf)))
        try rw [hb]
        refine br_true (by simp; omega) ?_
        (conv => whnf)
        refine must_intro (decide_eq_true (by omega)) ?_
        (conv => whnf)
        try rw [hb]
        rw [wrap_u8, wrap_u64, wrap_u64]
        have e1 : ((((s[i]).toNat : Int) - 97) % 256 % 18446744073709551616 + 10) % 18446744073709551616 = (((s[i]).toNat - 87 : Nat) : Int) := by omega
        rw [e1]
        obtain ⟨d, hdd⟩ : ∃ d, d = (s[i]).toNat - 87 := ⟨_, rfl⟩
        rw [← hdd] at hd ⊢
        refine br_false (by simp; omega) ?_
        (conv => whnf)
        rw [(fin d hd).1, (fin d hd).2]
        exact IH (i + 1) _ ⟨by omega, by omega, done _ hd⟩ (by omega)
      · have hn := noneR (hexv_none c1 c2)
        refine br_intro (fun g1 => ?_) (fun g1 => ?_)
        · (conv => whnf); (repeat ((with_reducible refine must_intro ?_ ?_); exact decide_eq_true (by omega); (conv => whnf)))
          try rw [hb]
          refine br_false (by simp at g1 ⊢; omega) ?_
          (conv => whnf); (repeat ((with_reducible refine must_intro ?_ ?_); exact decide_eq_true (by omega); (conv => whnf)))
          try rw [hb]
          refine br_intro (fun g2 => ?_) (fun g2 => ?_)
          · (conv => whnf); (repeat ((with_reducible refine must_intro ?_ ?_); exact decide_eq_true (by omega); (conv => whnf)))
            try rw [hb]
            refine br_false (by simp at g2 ⊢; omega) ?_
            (conv => whnf)
            exact hn
          · (conv => whnf)
            exact hn
        · (conv => whnf); (repeat ((with_reducible refine must_intro ?_ ?_); exact decide_eq_true (by omega); (conv => whnf)))
          try rw [hb]
          refine br_false (by simp at g1 ⊢; omega) ?_
          (conv => whnf)
          exact hn
  · have hc : i = s.length := by simp at hc; omega
    subst hc
    rw [List.drop_length] at h3
    simp only [readW] at h3
    (conv => whnf)
    have hk := k (some (BitVec.ofNat 64 n)) (by rw [readB_W s hl, ← h3]; rfl)
    simpa [vread, uv, Nat.mod_eq_of_lt h2] using hk

theorem DigestHex_calls (h : U) (s : B) {R} (k : R (.val (.bool true)) []) : ACalls Try.prog 6 [uv h, .val (.string (ofB s))] [] R := by
  refine acalls_of_xwp (an := an6) tab_ok Try.func6 ?_
  have hsz : (ofB s).size = s.length := size_ofB s
  (conv => whnf)
  refine br_intro (fun hc => ?_) (fun hc => ?_)
  · (conv => whnf)
    refine dfixed_calls ?_
    (conv => whnf)
    exact k
  have hl : s.length ≤ 100 := by simp at hc; omega
  (conv => whnf)
  refine Read_calls s (by omega) fun o1 h1 => ?_
  (conv => whnf)
  refine refRead_calls s (by omega) fun o2 h2 => ?_
  (conv => whnf)
  refine Hex_calls h fun d1 g1 => ?_
  (conv => whnf)
  subst g1
  refine Read_calls (hexB h) (by rw [hexB, hexL_length]; omega) fun o3 h3 => ?_
  rw [readB_hexB] at h3
  subst h3
  (conv => whnf)
  refine dfixed_calls ?_
  (conv => whnf)
  refine Hex_calls h fun d2 g2 => ?_
  (conv => whnf)
  refine refHex_calls h fun d3 g3 => ?_
  (conv => whnf)
  refine br_true (by simp [g2, g3]) ?_
  (conv => whnf)
  refine br_true (by simp [h1, h2]) ?_
  (conv => whnf)
  refine br_true (by simp [h1, h2]) ?_
  (conv => whnf)
  refine br_true (by simp) ?_
  (conv => whnf)
  cases o1 with
  | none =>
    (conv => whnf)
    exact k
  | some n =>
    (conv => whnf)
    refine Hex_calls n fun d4 g4 => ?_
    rw [hexB_readB h1.symm] at g4
    (conv => whnf)
    rw [g4]
    simpa using k

theorem args_str {ts : List TypeId} {l : List AV} (h : Args tab 12 (9 :: ts) l) : ∃ (x : B) (l' : List AV), l = .val (.string (ofB x)) :: l' ∧ x.length ≤ maxLen ∧ Args tab 12 ts l' := by
  obtain ⟨a, l', rfl, h1, h2⟩ := h
  obtain ⟨x, e, hx⟩ : ∃ x : ByteArray, [a] = [.val (.string x)] ∧ x.size ≤ maxLen := h1
  simp only [List.cons.injEq, and_true] at e
  exact ⟨bs x, l', by rw [e, ofB_bs], by rw [← size_bs]; exact hx, h2⟩
theorem DigestHex_row (l : List AV) (h : Args tab 12 [22, 9] l) : ACalls Try.prog 6 l [] fun r _ => r = .val (.bool true) := by
  obtain ⟨n, l1, rfl, h1⟩ := args_u64 h
  obtain ⟨a, l2, rfl, _, h2⟩ := args_str h1
  obtain rfl := args_nil h2
  exact DigestHex_calls n a rfl
end Go.Abs

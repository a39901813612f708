/- The walk of the statement WheelFar. No condition. -/
import Derived.Test.YtadhceoaoopcjaaF3
namespace Go.Proofs.Ytadhceoaoopcjaa.SL
open Go.RowKit Go.Proofs.YtadhceoaoopcjaaW.PrintWords Go.Proofs.YtadhceoaoopcjaaW.PrintLast Go.Proofs.YtadhceoaoopcjaaW.PrintMore
theorem i64_and1 (n : Int) : bits .and .i64 n 1 = n % 2 := by
  have hn : (BitVec.ofInt 64 n).toNat = (n % 18446744073709551616).toNat := BitVec.toNat_ofInt ..
  have hm : (BitVec.ofInt 64 (1 : Int)).toNat = 2 ^ 1 - 1 := by decide
  show IntKind.i64.wrap ((BitVec.ofInt 64 n &&& BitVec.ofInt 64 1).toNat : Int) = _
  rw [BitVec.toNat_and, hn, hm, Nat.and_two_pow_sub_one_eq_mod, i64_wrap_small _ (by omega) (by omega)]
  omega
theorem two_pow_rng {k n : Nat} (h : k ≤ n) : (1 : Int) ≤ 2 ^ k ∧ (2 : Int) ^ k ≤ 2 ^ n := by
  have h1 : 1 ≤ 2 ^ k := Nat.one_le_two_pow
  have h2 : 2 ^ k ≤ 2 ^ n := Nat.pow_le_pow_right (by decide) h
  exact ⟨by exact_mod_cast h1, by exact_mod_cast h2⟩
abbrev ob64 (v : Value) (l : List Int) : Ob := obW kI 2 flI v l
theorem info64 : (Try.prog.info? 2).map (fun i => (i.zero, i.size, i.bytes)) = some (some (.int .i64 0), kI.sz, 8) := by kernel_rfl
/-- A tick of a list. -/
theorem RI_at {w : World} {base : Nat} {v : Value} {l : List Int} {ok : Nat → Prop} (h : kI.R 2 w base ok v l) (k : Nat) (x : Int) (hk : l[k]? = some x) : ∃ g, (∃ c, v = .slice (some ⟨g, 0, none⟩) l.length c) ∧ w.cell? ⟨g, k, none⟩ = some (.int .i64 x) := by
  have hkl := (List.getElem?_eq_some_iff.1 hk).1
  obtain ⟨inner, ho⟩ := Kd.R_own h
  obtain ⟨g, cap, hv, _, _⟩ := ho.form (by omega)
  obtain ⟨A, c, hv2, hc, hC⟩ := Kd.R_reads h
  rw [hv] at hv2
  injection hv2 with e1 e2 e3
  subst e1 e3
  obtain ⟨ad, cs, hA, _, hK, hcs⟩ := Kd.C_get hC x (k : Int) (by omega) (by omega)
  obtain rfl : ad = ⟨g, 0, none⟩ := (Option.some.inj hA).symm
  obtain rfl : cs = [.int .i64 (l.getD (k : Int).toNat x)] := hK
  rw [Int.toNat_natCast, List.getD_eq_getElem?_getD, hk] at hcs
  have hadd : ∀ i, (⟨g, 0, none⟩ : Addr).add i = ⟨g, i, none⟩ := fun i => by unfold Addr.add; split <;> simp_all
  refine ⟨g, ⟨cap, hv⟩, ?_⟩
  have := hcs 0 _ rfl
  rw [hadd] at this
  simpa [Kd.int, Kd.scalar] using this
set_option maxHeartbeats 16000000 in
set_option maxRecDepth 100000 in
theorem far_calls (now0 seed : Int) (w : World) : Calls Try.prog 3 #[.int .i64 now0, .int .i64 seed] w fun e w' => e = .returned (.bool true) ∧ Below w.heap.size w w' := by
  have hw1 := wi_rng now0
  have HW1 := Lib.hid fun W => within_calls now0 W
  generalize wi now0 = now at *
  obtain ⟨hn0, hn1⟩ := hw1
  have hsd := i64_and1 seed
  have hs0 : 0 ≤ seed % 2 ∧ seed % 2 ≤ 1 := by omega
  generalize seed % 2 = sd at *
  obtain ⟨hs0, hs1⟩ := hs0
  go_enter Try.func3, Try.ntmps3
  go_wp2_with (first
    | (go_at_call 9; refine (alive_calls _).mono ?_; rintro e w1 ⟨rfl, hb⟩; have HB0 := Lib.hid ((St.nil w).below hb); clear hb)
    | (go_at_call 10; refine (HW1.out _).mono ?_; rintro e w2 ⟨rfl, rfl⟩)
    | (go_at_call 11; refine (c_new HB0.out now (by omega) (by omega)).mono ?_; rintro e w3 ⟨p, x, rfl, hx, hs⟩; have HX : Hid (x.Is p ⟨now, 0, []⟩) := Lib.hid hx; have HS : Hid (St w w3 [ob64 (.slice none 0 0) [], obWh x]) := Lib.hid ((hs.newW (d := kI) (e := 2) flI).front1); clear hx hs HB0))
  go_loopw [7, 8] (fun v s8 wr => ∃ (k : Nat) (x : WSt) (s : Wh) (ats : List Int) (A : Option Addr) (c : Nat), k ≤ 41 ∧ ats.length ≤ 3 * k ∧ s8 = .int .i64 k ∧ v = .slice A ats.length c ∧ Hid (x.Is p s) ∧ Hid (FarI now s ats) ∧ Hid (St w wr [ob64 (.slice A ats.length c) ats, obWh x])) (fun _ s8 _ => 41 - (intOf s8).toNat)
  case atStart => exact ⟨0, x, ⟨now, 0, []⟩, [], none, 0, by decide, Nat.le_refl _, rfl, rfl, HX, Lib.hid (FarI.start ⟨hn0, by omega⟩), HS⟩
  case round =>
    clear HX HS
    obtain ⟨k, x, s, ats, A, c, hk, hl, rfl, rfl, HX, HI, HS⟩ := hrel
    have hk0 : (0 : Int) ≤ (k : Int) := by omega
    by_cases hkt : k < 41
    · have hktz : (k : Int) < 41 := by omega
      go_wp2_with fail
      obtain ⟨wo, rfl⟩ : ∃ wo : World, wo = wr := ⟨_, rfl⟩
      go_loopw [7, 9] (fun v s9 wr => ∃ (m : Nat) (x : WSt) (s : Wh) (ats : List Int) (A : Option Addr) (c : Nat), m ≤ 3 ∧ ats.length ≤ 3 * k + m ∧ s9 = .int .i64 ((m : Int) - 1) ∧ v = .slice A ats.length c ∧ Hid (x.Is p s) ∧ Hid (FarI now s ats) ∧ Hid (St w wr [ob64 (.slice A ats.length c) ats, obWh x])) (fun _ s9 _ => (2 - intOf s9).toNat)
      case atStart => exact ⟨0, x, s, ats, A, c, by decide, hl, rfl, rfl, HX, HI, HS⟩
      case round =>
        clear HX HI HS
        obtain ⟨m, x, s, ats, A, c, hm, hl, rfl, rfl, HX, HI, HS⟩ := hrel
        by_cases hmt : m < 3
        · have hmz : (m : Int) - 1 < 2 := by omega
          have hp2 := two_pow_rng (k := k) (n := 40) (by omega)
          have hp40 : (2 : Int) ^ 40 = 1099511627776 := by decide
          rw [hp40] at hp2
          obtain ⟨P, hP⟩ : ∃ P : Int, (2 : Int) ^ k = P := ⟨_, rfl⟩
          rw [hP] at hp2
          obtain ⟨hp0, hp1⟩ := hp2
          clear hp40
          by_cases hle : now + P + ((m : Int) - 1) + sd ≤ 1099511627776
          · obtain ⟨hr, he, hf⟩ := HI.out.add (t := now + P + ((m : Int) - 1) + sd) (k : Int) (by omega) hle (by omega)
            have HRE := Lib.hid (And.intro hr he)
            have HI2 := Lib.hid hf
            have HM := Lib.hid (show s.last < 4000000000000000000 by rw [HI.out.l]; omega)
            have hb3 : (ats.length + 1) * 8 ≤ 140737488355328 := by omega
            have HB3 := Lib.hid hb3
            clear hr he hf hb3
            go_wp2_with (first
              | (go_at_call 12; refine (c_add HS.out 1 rfl HX.out HM.out _ _ HRE.out.1 HRE.out.2 rfl).mono ?_; rintro e w4 ⟨x4, rfl, hx, hs⟩; have HX4 := Lib.hid hx; have HS4 : Hid (St w w4 [ob64 (.slice A ats.length c) ats, obWh x4]) := Lib.hid hs; clear hx hs)
              | (at_builtin; go_must (refine wpList_append_St kI HS4.out 0 rfl rfl (.tmp 64) (.tmp 66) 28 (.int .i64 0) 8 rfl Try.underlying28 info64 rfl (by decide) (by decide) (now + P + ((m : Int) - 1) + sd) [.int .i64 (now + P + ((m : Int) - 1) + sd)] rfl rfl rfl HB3.out ?_; intro v1 w9 HG HS9; obtain ⟨X1, c1x, rfl⟩ := HG.out.slice; have HS5 : Hid (St w w9 [ob64 (.slice (some X1) (ats.length + 1) c1x) (ats ++ [now + P + ((m : Int) - 1) + sd]), obWh x4]) := HS9; clear HG HS9 HS4)))
            go_roundw
            case rel => exact ⟨m + 1, x4, _, ats ++ [now + P + ((m : Int) - 1) + sd], some X1, c1x, by omega, by rw [List.length_append, List.length_singleton]; omega, by go_num, by rw [List.length_append, List.length_singleton], HX4, HI2, by rw [List.length_append, List.length_singleton]; exact HS5⟩
            case measure => simp [intOf]; omega
          · have hle2 : 1099511627776 < now + P + ((m : Int) - 1) + sd := by omega
            go_wp2_with fail
            go_roundw
            case rel => exact ⟨m + 1, x, s, ats, A, c, by omega, by omega, by go_num, rfl, HX, HI, HS⟩
            case measure => simp [intOf]; omega
        · obtain rfl : m = 3 := by omega
          go_wp2_with fail
          go_roundw
          case rel => exact ⟨k + 1, x, s, ats, A, c, by omega, by omega, by go_num, rfl, HX, HI, HS⟩
          case measure => simp [intOf]; omega
    · have hkz : (k : Int) = 41 := by omega
      have hal : ats.length ≤ 123 := by omega
      rw [hkz]
      clear hkz
      have HJ0 := Lib.hid (FarJ.start HI.out)
      have HT := Lib.hid HI.out.t
      have HNW := Lib.hid HI.out.n
      have hl0 : Hid (s.L.length = ats.length) := Lib.hid HI.out.len
      generalize hL0 : s.L = L0 at HJ0 HT hl0
      clear HI hk hkt hl hL0 hk0
      go_wp2_with fail
      go_loopw [13, 14] (fun s13 s14 wr => ∃ (k : Nat) (x : WSt) (s : Wh) (told : Int), k ≤ 42 ∧ s14 = .int .i64 k ∧ s13 = .int .i64 told ∧ Hid (x.Is p s) ∧ Hid (FarJ L0 s told) ∧ Hid (St w wr [ob64 (.slice A ats.length c) ats, obWh x])) (fun _ s14 _ => 42 - (intOf s14).toNat)
      case atStart => exact ⟨0, x, s, 0, by decide, rfl, rfl, HX, HJ0, HS⟩
      case round =>
        clear HX HJ0 HS HNW
        obtain ⟨k, x, s, told, hk, rfl, rfl, HX, HJ, HS⟩ := hrel
        have hk0 : (0 : Int) ≤ (k : Int) := by omega
        by_cases hkt : k < 42
        · have hktz : (k : Int) < 42 := by omega
          have hp2 := two_pow_rng (k := k) (n := 41) (by omega)
          have hp40 : (2 : Int) ^ 41 = 2199023255552 := by decide
          rw [hp40] at hp2
          obtain ⟨P, hP⟩ : ∃ P : Int, (2 : Int) ^ k = P := ⟨_, rfl⟩
          rw [hP] at hp2
          obtain ⟨hp0, hp1⟩ := hp2
          clear hp40
          obtain ⟨tk, htk⟩ : ∃ tk, min (now + P) 1099511627776 = tk := ⟨_, rfl⟩
          have htk2 : tk ≤ 1099511627776 := by omega
          by_cases hbk : tk < s.now
          · go_wp2_with (go_at_call 13; refine (c_now HS.out 1 rfl HX.out).mono ?_; rintro e w4 ⟨rfl, rfl⟩)
            go_roundw
            case rel => exact ⟨k + 1, x, s, told, by omega, by go_num, rfl, HX, HJ, HS⟩
            case measure => simp [intOf]; omega
          · obtain ⟨q1, q2, q3, q4, q5, q6⟩ := HJ.out.adv (show s.now ≤ tk by omega) htk2
            obtain ⟨l, hlD⟩ : ∃ l, dueL s tk = l := ⟨_, rfl⟩
            rw [hlD] at q2 q3 q4 q6
            rw [HT.out] at q4 q5
            have HL0 := hl0
            rw [hl0.out] at q5
            have HQ1 := Lib.hid q1
            have HJ2 := Lib.hid q2
            have HQ3 := Lib.hid q3
            have HDL := Lib.hid hlD
            have hul := upTo_le tk ats
            obtain ⟨U, hU⟩ : ∃ U, upTo tk ats = U := ⟨_, rfl⟩
            rw [hU] at q4 q5 hul
            have hU2 := Lib.hid hU
            have htold : told ≤ 123 ∧ -10000 ≤ told := by omega
            have hq5 := Lib.hid q5
            obtain ⟨htold1, htold2⟩ := htold
            clear q1 q2 q3 hlD hU q5
            go_wp2_with (first
              | (go_at_call 13; refine (c_now HS.out 1 rfl HX.out).mono ?_; rintro e w4 ⟨rfl, rfl⟩)
              | (go_at_call 14; refine (c_adv HS.out 1 rfl HX.out tk HDL.out HQ1.out rfl).mono ?_; rintro e w6 ⟨A6, c6, x6, rfl, hx, hs⟩; have HX6 := Lib.hid hx; have HS6 : Hid (St w w6 [obD (.slice A6 l.length c6) l, ob64 (.slice A ats.length c) ats, obWh x6]) := Lib.hid hs; clear hx hs HS HX))
            go_loop [18] (fun s18 => ∃ m : Nat, m ≤ l.length ∧ s18 = .int .i64 m) (fun s18 => l.length - (intOf s18).toNat)
            case atStart => exact ⟨0, Nat.zero_le _, rfl⟩
            case round =>
              obtain ⟨m, hm, rfl⟩ := hrel
              have hm0 : (0 : Int) ≤ (m : Int) := by omega
              by_cases hmt : m < l.length
              · have hmz : (m : Int) < (l.length : Int) := by omega
                obtain ⟨g, rfl, -, y0, y1, y2⟩ := HS6.out.cellD 0 rfl m hmt
                have hyt : l[m].t ≤ tk := HQ3.out _ (List.getElem_mem _)
                generalize l[m] = y at *
                go_wp2_with fail
                go_round
                case rel => exact ⟨m + 1, by omega, by go_num⟩
                case measure => simp [intOf]; omega
              · obtain rfl : m = l.length := by omega
                have hmz : ¬ (l.length : Int) < (l.length : Int) := by omega
                go_wp2_with fail
                go_loop [19, 20] (fun s19 s20 => ∃ m : Nat, m ≤ ats.length ∧ s20 = .int .i64 m ∧ s19 = .int .i64 (upTo tk (ats.take m) : Nat)) (fun _ s20 => ats.length - (intOf s20).toNat)
                case atStart => exact ⟨0, Nat.zero_le _, rfl, rfl⟩
                case round =>
                  obtain ⟨m, hm2, rfl, rfl⟩ := hrel
                  have hm0 : (0 : Int) ≤ (m : Int) := by omega
                  have hum : upTo tk (ats.take m) ≤ 123 := by
                    have := upTo_le tk (ats.take m)
                    rw [List.length_take] at this
                    omega
                  by_cases hmt2 : m < ats.length
                  · have hmz2 : (m : Int) < (ats.length : Int) := by omega
                    obtain ⟨g, e1, y0⟩ := RI_at (show kI.R _ _ _ _ _ _ from HS6.out.get 1 rfl) m ats[m] (List.getElem?_eq_getElem hmt2)
                    have hus := upTo_succ tk ats hmt2
                    obtain ⟨c9, e1⟩ := e1
                    injection e1 with e1 e2 e3
                    subst e1
                    have HUS := Lib.hid hus
                    generalize ats[m] = y at *
                    clear hus e2 e3
                    by_cases hyt : y ≤ tk
                    · go_wp2_with fail
                      go_round
                      case rel => exact ⟨m + 1, by omega, by go_num, by rw [HUS.out, if_pos hyt]; go_num⟩
                      case measure => simp [intOf]; omega
                    · go_wp2_with fail
                      go_round
                      case rel => exact ⟨m + 1, by omega, by go_num, by rw [HUS.out, if_neg hyt]; go_num⟩
                      case measure => simp [intOf]; omega
                  · obtain rfl : m = ats.length := by omega
                    have hmz2 : ¬ (ats.length : Int) < (ats.length : Int) := by omega
                    rw [List.take_length, hU2.out]
                    have hbe : (told + (l.length : Int) == (U : Int)) = true := by rw [q4]; simp
                    have hb5 : ((ats.length : Int) - (U : Int) == (ats.length : Int) - (U : Int)) = true := by simp
                    go_wp2_with (go_at_call 15; refine (c_len HS6.out 2 rfl HX6.out).mono ?_; rw [hq5.out]; rintro e w7 ⟨rfl, rfl⟩)
                    go_roundw
                    case rel => exact ⟨k + 1, x6, _, told + (l.length : Int), by omega, by go_num, by go_num, HX6, HJ2, HS6.out.sub (List.sublist_cons_self _ _) |> Lib.hid⟩
                    case measure => simp [intOf]; omega
        · obtain rfl : k = 42 := by omega
          go_wp2_with fail
          go_ret
          exact ⟨rfl, HS.out.bl⟩
end Go.Proofs.Ytadhceoaoopcjaa.SL

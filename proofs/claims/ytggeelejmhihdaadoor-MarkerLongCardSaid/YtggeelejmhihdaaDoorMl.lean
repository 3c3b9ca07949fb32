/- Contracts of package marker: how long marks are to be; which mark a line is. -/
import Derived.WalkKit
import Derived.WalkSpells
import Derived.WalkLawsBesides
import Derived.BigQuiet
import Derived.BigCall
import Derived.Deep.QuietTactic
import Derived.Lib.Hide
import Derived.Lib.OthersKept
import Derived.Test.YtggeelejmhihdaaDoorLn
namespace Go.Proofs.YtggeelejmhihdaaDoor.Ml
open Go.RowKit Go.Shelf Go.Proofs.YtggeelejmhihdaaDoor.Pl Go.Proofs.YtggeelejmhihdaaDoor.Ut Go.Proofs.YtggeelejmhihdaaDoor.Ln Go.Proofs.YtggeelejmhihdaaDoorW.PrintWords
set_option linter.unusedVariables false
set_option linter.unusedSimpArgs false
attribute [local go_sem] B_append B_extract B_toList B_size take_end

theorem iter_new (w : World) (s : ByteArray) : (w.iter s 0).heap[w.heap.size]? = some (.stringIter s 0) := World.iter_heap w s 0

theorem dw_all (c : UInt8) : ∀ (s : Str), (∀ j, j < s.length → s[j]? = some c) → s.dropWhile (· == c) = []
  | [], _ => rfl
  | x :: t, h => by
    have h0 := h 0 (by simp)
    simp at h0
    subst h0
    simp only [List.dropWhile_cons, beq_self_eq_true, if_true]
    exact dw_all x t (fun j hj => by have := h (j + 1) (by simp; omega); simpa using this)
theorem dw_at (c : UInt8) : ∀ (s : Str) (k : Nat), k < s.length → (∀ j, j < k → s[j]? = some c) → s[k]? ≠ some c → s.dropWhile (· == c) = s.drop k
  | [], k, h, _, _ => by simp at h
  | x :: t, 0, _, _, hn => by
    have : x ≠ c := by simpa using hn
    simp [this]
  | x :: t, k + 1, hk, h, hn => by
    have h0 := h 0 (by omega)
    simp at h0
    subst h0
    simp only [List.dropWhile_cons, beq_self_eq_true, if_true, List.drop_succ_cons]
    exact dw_at x t k (by simpa using hk) (fun j hj => by have := h (j + 1) (by omega); simpa using this) (by simpa using hn)

theorem getB (s : Str) (k : Nat) (h : k < s.length) : (B s)[k]'(by rw [B_size]; exact h) = s[k] := rfl

set_option maxRecDepth 100000 in
set_option maxHeartbeats 2000000 in
theorem cutLeft_any (c : UInt8) (hc : c.toNat < 128) (s : Str) (w : World) (hs : s.length ≤ 1000000000) :
    Calls Tryd.prog 25 #[.string (B s), .string (B [c])] w fun e w' => e = .returned (.string (B (s.dropWhile (· == c)))) ∧ Below w.heap.size w w' := by
  go_enter Tryd.func25, Tryd.ntmps25
  go_wp2
  go_loopw [] (fun wr => ∃ pos : Nat, pos ≤ s.length ∧ wr.heap[w.heap.size]? = some (.stringIter (B s) pos) ∧ Below w.heap.size w wr ∧ ∀ j, j < pos → s[j]? = some c) (fun wr => s.length - wr.iterPos w.heap.size)
  case atStart =>
    exact ⟨0, Nat.zero_le _, iter_new w _, (Below.refl _ w).alloc (Nat.le_refl _) _, fun j h => absurd h (Nat.not_lt_zero _)⟩
  case round =>
    obtain ⟨pos, hpl, hit, hbw, hall⟩ := hrel
    have HALL := Lib.hid hall
    clear hall
    have hsz : w.heap.size < wr.heap.size := (Array.getElem?_eq_some_iff.1 hit).1
    by_cases hp : pos < s.length
    · have hp' : pos < (B s).size := by rw [B_size]; exact hp
      obtain ⟨r, hr⟩ : ∃ r, r = (Utf8.decode (B s) pos).1 := ⟨_, rfl⟩
      obtain ⟨d, hd⟩ : ∃ d, d = (Utf8.decode (B s) pos).2 := ⟨_, rfl⟩
      have hnx : ∀ ty, (Instr.next (.pointer (some ⟨w.heap.size, 0, none⟩)) true ty).run Tryd.prog wr = .ok (.tuple #[.bool true, .int .i64 pos, .int .i32 r]) (wr.iterAt w.heap.size (B s) (pos + d)) := fun ty => by rw [hr, hd]; exact Lib.run_next_any_at wr w.heap.size (B s) pos ty hit hp'
      have hr2 : r ≤ 2147483647 := by rw [hr]; exact decode_le _ _
      have hdec : (r = c.toNat ∧ d = 1 ∧ s[pos]? = some c) ∨ (r ≠ c.toNat ∧ s[pos]? ≠ some c) := by
        by_cases ha : (s[pos]'hp).toNat < 128
        · have := decode_ascii (B s) pos hp' ha
          rw [this] at hr hd
          have hg : (B s)[pos]'hp' = s[pos] := rfl
          simp only [hg] at hr hd
          by_cases e : s[pos] = c
          · exact .inl ⟨by rw [hr, e], hd, by rw [List.getElem?_eq_getElem hp, e]⟩
          · exact .inr ⟨by rw [hr]; intro h; exact e (UInt8.toNat_inj.1 h), by rw [List.getElem?_eq_getElem hp]; simpa using e⟩
        · have := decode_high (B s) pos hp' (Nat.not_lt.1 ha)
          rw [← hr] at this
          exact .inr ⟨by omega, by rw [List.getElem?_eq_getElem hp]; intro h; injection h with h; rw [h] at ha; exact ha hc⟩
      have HD := Lib.hid hdec
      clear hr hd hdec
      obtain ⟨W, hW⟩ : ∃ W, W = wr.iterAt w.heap.size (B s) (pos + d) := ⟨_, rfl⟩
      rw [← hW] at hnx
      have hitW : W.heap[w.heap.size]? = some (.stringIter (B s) (pos + d)) := by rw [hW]; exact Lib.iterAt_heap wr w.heap.size (B s) pos (pos + d) hit
      have hbW : Below w.heap.size w W := by rw [hW]; exact Lib.below_iterAt hbw (Nat.le_refl _) (B s) (pos + d)
      have hszW : w.heap.size < W.heap.size := (Array.getElem?_eq_some_iff.1 hitW).1
      have HHIT := Lib.hid hit
      have HW := Lib.hid hW
      clear hW hit
      obtain ⟨m, hm⟩ : ∃ m, ((r : Int) == (c.toNat : Int)) = m := ⟨_, rfl⟩
      have hmm : (m = true ∧ d = 1 ∧ s[pos]? = some c) ∨ (m = false ∧ s[pos]? ≠ some c) := by
        rcases HD.out with ⟨h1, h2, h3⟩ | ⟨h1, h3⟩
        · exact .inl ⟨by rw [← hm, h1]; simp, h2, h3⟩
        · refine .inr ⟨?_, h3⟩
          rw [← hm, beq_eq_false_iff_ne]
          intro h; exact h1 (by omega)
      have HM := Lib.hid hmm
      clear hmm HD
      have hc0 : ([c] : Str).length = 1 := rfl
      obtain ⟨wo, rfl⟩ : ∃ wo : World, wo = wr := ⟨_, rfl⟩
      go_wp2
      go_loopw [7] (fun v wi => ∃ p2 : Nat, ((p2 = 0 ∧ v = .bool false) ∨ (p2 = 1 ∧ v = .bool m)) ∧ wi.heap[W.heap.size]? = some (.stringIter (B [c]) p2) ∧ wi.heap[w.heap.size]? = some (.stringIter (B s) (pos + d)) ∧ Below w.heap.size w wi) (fun _ wi => 1 - wi.iterPos W.heap.size)
      case atStart =>
        exact ⟨0, .inl ⟨rfl, rfl⟩, iter_new W _, (Below.heap_alloc W _ _ hszW).trans hitW, hbW.alloc hbW.size _⟩
      case round =>
        obtain ⟨p2, hv, hi2, hi1, hbi⟩ := hrel
        have hsz2 : W.heap.size < wr.heap.size := (Array.getElem?_eq_some_iff.1 hi2).1
        clear hnx
        rcases hv with ⟨rfl, rfl⟩ | ⟨rfl, rfl⟩
        · have hda := decode_ascii (B [c]) 0 (by rw [B_size]; simp) hc
          have hnx2 : ∀ ty, (Instr.next (.pointer (some ⟨W.heap.size, 0, none⟩)) true ty).run Tryd.prog wr = .ok (.tuple #[.bool true, .int .i64 ((0 : Nat) : Int), .int .i32 (c.toNat : Int)]) (wr.iterAt W.heap.size (B [c]) 1) := fun ty => by
            have h := Lib.run_next_any_at (P := Tryd.prog) wr W.heap.size (B [c]) 0 ty hi2 (by rw [B_size]; simp)
            rw [hda] at h
            exact h
          have hi2' := Lib.iterAt_heap wr W.heap.size (B [c]) 0 1 hi2
          have hi1' : (wr.iterAt W.heap.size (B [c]) 1).heap[w.heap.size]? = some (.stringIter (B s) (pos + d)) := by rw [Lib.iterAt_other _ _ _ _ _ (by omega)]; exact hi1
          have hbi' := Lib.below_iterAt hbi (k := W.heap.size) (by omega) (B [c]) 1
          have HI := Lib.hid hi2
          clear hi2 hda
          go_wp2
          go_roundw
          case rel => exact ⟨1, .inr ⟨rfl, rfl⟩, hi2', hi1', hbi'⟩
          case measure => simp only [World.iterPos, HI.out, hi2']; omega
        · have hnx2 : ∀ ty, (Instr.next (.pointer (some ⟨W.heap.size, 0, none⟩)) true ty).run Tryd.prog wr = .ok (.tuple #[.bool false]) wr := fun ty => Lib.run_next_end_at wr W.heap.size (B [c]) 1 ty hi2 (by rw [B_size]; simp)
          rcases HM.out with ⟨rfl, rfl, hsc⟩ | ⟨rfl, hsc⟩
          · go_wp2
            go_roundw
            case rel =>
              refine ⟨pos + 1, by omega, hi1, hbi, fun j hj => ?_⟩
              by_cases e : j = pos
              · rw [e]; exact hsc
              · exact HALL.out j (by omega)
            case measure => simp only [World.iterPos, HHIT.out, hi1]; omega
          · go_wp2
            go_ret
            exact ⟨by rw [dw_at c s pos hp HALL.out hsc]; rfl, hbi⟩
    · have hnx : ∀ ty, (Instr.next (.pointer (some ⟨w.heap.size, 0, none⟩)) true ty).run Tryd.prog wr = _ := fun ty => Lib.run_next_end_at wr w.heap.size (B s) pos ty hit (by rw [B_size]; omega)
      go_wp2
      go_ret
      exact ⟨by rw [dw_all c s (fun j hj => HALL.out j (by omega))]; rfl, hbw⟩

theorem foldl_take {α β : Type} (f : β → α → β) (b : β) (l : List α) (k : Nat) (x : α) (h : l[k]? = some x) : (l.take (k + 1)).foldl f b = f ((l.take k).foldl f b) x := by
  rw [List.take_add_one, h]; simp

set_option maxRecDepth 100000 in
set_option maxHeartbeats 4000000 in
theorem length_any (ts : List Str) (A : Option Addr) (c : Nat) (w : World) (hC : Kd.C kStr w A ts.length ts) (hS : Signs w) (hlen : ts.length ≤ 1000000) (hx : ∀ t ∈ ts, t.length ≤ 1000000000) :
    Calls Tryd.prog 12 #[.slice A ts.length c] w fun e w' => e = .returned (.int .i64 (lengthL ts)) ∧ Below w.heap.size w w' := by
  have HX := Lib.hid hx
  have HCC := Lib.hid hC
  have HS := Lib.hid hS
  clear hx hC hS
  go_enter Tryd.func12, Tryd.ntmps12
  go_wp2
  go_loopw [3, 12] (fun v i wr => ∃ k : Nat, k ≤ ts.length ∧ i = .int .i64 k ∧ v = .int .i64 ((ts.take k).foldl textMax 7 : Nat) ∧ Below w.heap.size w wr) (fun _ i _ => ts.length - (intOf i).toNat)
  case atStart => exact ⟨0, Nat.zero_le _, rfl, rfl, Below.refl _ _⟩
  case round =>
    obtain ⟨k, hk, rfl, rfl, hB⟩ := hrel
    obtain ⟨n0, hn0⟩ : ∃ n0, n0 = (ts.take k).foldl textMax 7 := ⟨_, rfl⟩
    rw [← hn0]
    have HN0 := Lib.hid hn0
    clear hn0
    by_cases hlt : k < ts.length
    · obtain ⟨t, htk⟩ : ∃ t, ts[k]? = some t := ⟨ts[k], List.getElem?_eq_getElem hlt⟩
      have htl := HX.out t (List.mem_of_getElem? htk)
      obtain ⟨ad, rfl, p0⟩ := at_str (Kd.C_below HCC.out hB) k hlt t htk
      have HT := Lib.hid htk
      clear htk
      go_wp2_with fail
      refine (split_any t (by omega) _).mono ?_
      rintro e W1 ⟨v, rfl, hR, hb1⟩
      obtain ⟨A2, c2, rfl, hc2, hC2⟩ := Kd.R_reads hR
      have hcnt := splitL_count t
      have HC2 := Lib.hid hC2
      clear hR hC2
      obtain ⟨wo, rfl⟩ : ∃ wo : World, wo = wr := ⟨_, rfl⟩
      have hBW : Below w.heap.size w W1 := hB.trans (hb1.mono hB.size)
      go_wp2
      go_loopw [3, 19] (fun v i wr => ∃ j n : Nat, j ≤ (splitL t).length ∧ i = .int .i64 j ∧ v = .int .i64 n ∧ n = ((splitL t).take j).foldl lineMax n0 ∧ Below W1.heap.size W1 wr) (fun _ i _ => (splitL t).length - (intOf i).toNat)
      case atStart => exact ⟨0, n0, Nat.zero_le _, rfl, rfl, rfl, Below.refl _ _⟩
      case round =>
        obtain ⟨j, n1, hj, rfl, rfl, hn1, hB1⟩ := hrel
        have HN1 := Lib.hid hn1
        clear hn1
        by_cases hjl : j < (splitL t).length
        · obtain ⟨x, hxj⟩ : ∃ x, (splitL t)[j]? = some x := ⟨_, List.getElem?_eq_getElem hjl⟩
          have hxl : x.length ≤ 1000000000 := Nat.le_trans (splitL_len t x (List.mem_of_getElem? hxj)) htl
          obtain ⟨ad2, rfl, q0⟩ := at_str (Kd.C_below HC2.out hB1) j hjl x hxj
          have HXJ := Lib.hid hxj
          clear hxj
          obtain ⟨wo2, rfl⟩ : ∃ wo2 : World, wo2 = wr := ⟨_, rfl⟩
          have hBo : Below w.heap.size w wo2 := hBW.trans (hB1.mono hBW.size)
          obtain ⟨s0, s1, s2, s3, s4, s5, s6, s7⟩ := HS.out.below hBo
          go_wp2
          go_loopw [3, 24] (fun v i wr => ∃ q : Nat, q ≤ 4 ∧ i = .int .i64 q ∧ v = .int .i64 (lineMaxK n1 x q : Nat) ∧ Below W1.heap.size W1 wr) (fun _ i _ => 4 - (intOf i).toNat)
          case atStart => exact ⟨0, by omega, rfl, rfl, hB1⟩
          case round =>
            obtain ⟨q, hq, rfl, rfl, hB2⟩ := hrel
            have hsz1 := hB2.size
            have hcase : q = 0 ∨ q = 1 ∨ q = 2 ∨ q = 3 ∨ q = 4 := by omega
            rcases hcase with rfl | rfl | rfl | rfl | rfl
            · have hidx : ∀ W, (Instr.index 52 (.agg #[.string (B [60]), .string (B wOurs), .string (B [124]), .string (B wBase), .string (B [61]), .string (B []), .string (B [62]), .string (B wTheirs)]) (.int .i64 0)).run Tryd.prog W = .ok (.agg #[.string (B [60]), .string (B wOurs)]) W := fun _ => by kernel_rfl
              have hre := runL_eq 60 x
              have hdl := dw_le 60 x
              obtain ⟨dw, hdw⟩ : ∃ dw, dw = x.dropWhile (· == 60) := ⟨_, rfl⟩
              rw [← hdw] at hre hdl
              have HRE := Lib.hid hre
              have HDW := Lib.hid hdw
              clear hre hdw
              obtain ⟨m0, hm0⟩ : ∃ m0, m0 = lineMaxK n1 x 0 := ⟨_, rfl⟩
              have HM0 := Lib.hid hm0
              simp only [← hm0]
              clear hm0
              go_wp2_with fail
              refine (cutLeft_any 60 (by decide) x _ hxl).mono ?_
              rw [← HDW.out]
              rintro e W2 ⟨rfl, hb2⟩
              go_wp2
              go_roundw
              case rel => exact ⟨1, by omega, rfl, by rw [HRE.out, max_cast, HM0.out]; rfl, (hB2.alloc hB2.size _).trans (hb2.mono (by simp; omega))⟩
              case measure => simp [intOf]
            · have hidx : ∀ W, (Instr.index 52 (.agg #[.string (B [60]), .string (B wOurs), .string (B [124]), .string (B wBase), .string (B [61]), .string (B []), .string (B [62]), .string (B wTheirs)]) (.int .i64 1)).run Tryd.prog W = .ok (.agg #[.string (B [124]), .string (B wBase)]) W := fun _ => by kernel_rfl
              have hre := runL_eq 124 x
              have hdl := dw_le 124 x
              obtain ⟨dw, hdw⟩ : ∃ dw, dw = x.dropWhile (· == 124) := ⟨_, rfl⟩
              rw [← hdw] at hre hdl
              have HRE := Lib.hid hre
              have HDW := Lib.hid hdw
              clear hre hdw
              obtain ⟨m0, hm0⟩ : ∃ m0, m0 = lineMaxK n1 x 1 := ⟨_, rfl⟩
              have HM0 := Lib.hid hm0
              simp only [← hm0]
              clear hm0
              go_wp2_with fail
              refine (cutLeft_any 124 (by decide) x _ hxl).mono ?_
              rw [← HDW.out]
              rintro e W2 ⟨rfl, hb2⟩
              go_wp2
              go_roundw
              case rel => exact ⟨2, by omega, rfl, by rw [HRE.out, max_cast, HM0.out]; rfl, (hB2.alloc hB2.size _).trans (hb2.mono (by simp; omega))⟩
              case measure => simp [intOf]
            · have hidx : ∀ W, (Instr.index 52 (.agg #[.string (B [60]), .string (B wOurs), .string (B [124]), .string (B wBase), .string (B [61]), .string (B []), .string (B [62]), .string (B wTheirs)]) (.int .i64 2)).run Tryd.prog W = .ok (.agg #[.string (B [61]), .string (B [])]) W := fun _ => by kernel_rfl
              have hre := runL_eq 61 x
              have hdl := dw_le 61 x
              obtain ⟨dw, hdw⟩ : ∃ dw, dw = x.dropWhile (· == 61) := ⟨_, rfl⟩
              rw [← hdw] at hre hdl
              have HRE := Lib.hid hre
              have HDW := Lib.hid hdw
              clear hre hdw
              obtain ⟨m0, hm0⟩ : ∃ m0, m0 = lineMaxK n1 x 2 := ⟨_, rfl⟩
              have HM0 := Lib.hid hm0
              simp only [← hm0]
              clear hm0
              go_wp2_with fail
              refine (cutLeft_any 61 (by decide) x _ hxl).mono ?_
              rw [← HDW.out]
              rintro e W2 ⟨rfl, hb2⟩
              go_wp2
              go_roundw
              case rel => exact ⟨3, by omega, rfl, by rw [HRE.out, max_cast, HM0.out]; rfl, (hB2.alloc hB2.size _).trans (hb2.mono (by simp; omega))⟩
              case measure => simp [intOf]
            · have hidx : ∀ W, (Instr.index 52 (.agg #[.string (B [60]), .string (B wOurs), .string (B [124]), .string (B wBase), .string (B [61]), .string (B []), .string (B [62]), .string (B wTheirs)]) (.int .i64 3)).run Tryd.prog W = .ok (.agg #[.string (B [62]), .string (B wTheirs)]) W := fun _ => by kernel_rfl
              have hre := runL_eq 62 x
              have hdl := dw_le 62 x
              obtain ⟨dw, hdw⟩ : ∃ dw, dw = x.dropWhile (· == 62) := ⟨_, rfl⟩
              rw [← hdw] at hre hdl
              have HRE := Lib.hid hre
              have HDW := Lib.hid hdw
              clear hre hdw
              obtain ⟨m0, hm0⟩ : ∃ m0, m0 = lineMaxK n1 x 3 := ⟨_, rfl⟩
              have HM0 := Lib.hid hm0
              simp only [← hm0]
              clear hm0
              go_wp2_with fail
              refine (cutLeft_any 62 (by decide) x _ hxl).mono ?_
              rw [← HDW.out]
              rintro e W2 ⟨rfl, hb2⟩
              go_wp2
              go_roundw
              case rel => exact ⟨4, by omega, rfl, by rw [HRE.out, max_cast, HM0.out]; rfl, (hB2.alloc hB2.size _).trans (hb2.mono (by simp; omega))⟩
              case measure => simp [intOf]
            · go_wp2
              go_roundw
              case rel => exact ⟨j + 1, lineMax n1 x, by omega, by go_num, rfl, by rw [foldl_take _ _ _ _ _ HXJ.out, ← HN1.out], hB2⟩
              case measure => simp [intOf]; omega
        · obtain rfl : j = (splitL t).length := by omega
          go_wp2
          go_roundw
          case rel => exact ⟨k + 1, by omega, by go_num, by rw [foldl_take _ _ _ _ _ HT.out, ← HN0.out, HN1.out, List.take_length]; rfl, hBW.trans (hB1.mono hBW.size)⟩
          case measure => simp [intOf]; omega
    · obtain rfl : k = ts.length := by omega
      go_wp2
      go_ret
      exact ⟨by rw [HN0.out, List.take_length]; rfl, hB⟩

end Go.Proofs.YtggeelejmhihdaaDoor.Ml

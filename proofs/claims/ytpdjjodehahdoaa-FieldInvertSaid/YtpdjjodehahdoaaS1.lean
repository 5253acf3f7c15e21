/- The walk of square. -/
import Derived.Test.YtpdjjodehahdoaaC3
import Derived.Test.YtpdjjodehahdoaaOwo
namespace Go.Proofs.Ytpdjjodehahdoaa
open Go.RowKit Go.Mem Go.Deep

def sqF (n : Nat) (l : List Nat) (i j : Nat) : GF.F := ⟨l.getD (i * n + j) 0 % 256, Nat.mod_lt _ (by decide)⟩
theorem info29' : (Try.prog.info? 29).map (fun i => (i.zero, i.size, i.bytes)) = some (some (.slice none 0 0), 1, 24) := by kernel_rfl

def Squared (n : Nat) (t : Nat → Nat → GF.F) (w : World) (e : Ending) (w' : World) : Prop :=
  ∃ R cap G C, e = .returned (.slice (some ⟨R, 0, none⟩) n cap) ∧ n ≤ cap ∧ cap ≤ maxLen ∧ Grid w' w.heap.size R n n G C t ∧ Below w.heap.size w w'

def rowTo (n : Nat) (l : List Nat) (i j b : Nat) : GF.F := if b < j then sqF n l i b else 0

set_option maxHeartbeats 4000000 in
theorem square_any (n : Nat) (l : List Nat) (vl : Value) (w : World) (hl : Bytes w vl l) (h1 : 1 ≤ n) (h8 : n ≤ 8) :
    Calls Try.prog 29 #[.int .i64 n, vl] w (Squared n (sqF n l) w) := by
  obtain ⟨la, lcap, rfl, hll⟩ := hl.open
  have hmk := run_make_row' (P := Try.prog) 29 5 (.int .u8 0) 1 Try.underlying29 info5 rfl .i64 .i64 n (by omega) (by omega)
  obtain ⟨N, hN⟩ : ∃ N, N = l.length := ⟨_, rfl⟩
  rw [← hN] at hl hll ⊢
  have HN := Lib.hid hN
  have HL := Lib.hid hl
  clear hl hN
  obtain ⟨i0, hi0, hz0, hz1, hz2⟩ := info_parts info29'
  go_enter Try.func29, Try.ntmps29
  go_wp2_with fail
  go_loopw [5, 6] (fun v i wr => ∃ (k : Nat) (G C : Nat → Nat), k ≤ n ∧ i = .int .i64 k ∧ Below w.heap.size w wr ∧ GridO wr w.heap.size 29 5 v k n G C (sqF n l)) (fun _ i _ => n - (intOf i).toNat)
  case atStart => exact ⟨0, fun _ => 0, fun _ => 0, by omega, rfl, Below.refl _ _, GridO.nil _ _ _ _ _ _ _ _⟩
  case round =>
    rename World => wr
    obtain ⟨k, G, C, hk, rfl, hbel, hgrid⟩ := hrel
    have HB := Lib.hid hbel
    have HG := Lib.hid hgrid
    clear hbel hgrid
    by_cases hkn : k < n
    · go_wp2_with fail
      go_loopw [8] (fun q wx => ∃ j : Nat, j ≤ n ∧ q = .int .i64 j ∧ Below wr.heap.size wr wx ∧ wx.heap.size = wr.heap.size + 1 ∧ OwnT wx wr.heap.size 5 n (fun b => .int .u8 (((rowTo n l k j b).v : Nat) : Int))) (fun q _ => n - (intOf q).toNat)
      case atStart => exact ⟨0, by omega, rfl, (Below.refl _ _).alloc (Nat.le_refl _) _, by simp, (OwnT.of_row (World.rowIs_made wr (.int .u8 0) n 5)).congr (fun b _ => by simp [rowTo, GF.F.v_zero])⟩
      case round =>
        rename World => wx
        obtain ⟨j, hj, rfl, hbel2, hsz2, hown2⟩ := hrel
        have HB2 := Lib.hid hbel2
        have HZ2 := Lib.hid hsz2
        have HO2 := Lib.hid hown2
        clear hbel2 hsz2 hown2
        have hkn8 : k * n ≤ 64 := Nat.le_trans (Nat.mul_le_mul (show k ≤ 8 by omega) h8) (by decide)
        obtain ⟨q, hq⟩ : ∃ q, q = k * n := ⟨_, rfl⟩
        have hkq : (k : Int) * (n : Int) = (q : Int) := by rw [hq, Int.natCast_mul]
        rw [← hq] at hkn8
        have HQ := Lib.hid hq
        clear hq
        by_cases hjn : j < n
        · by_cases hin : q + j < N
          · obtain ⟨lb, lo, rfl, hlb, hc⟩ := HL.out.cell (i := q + j) (by have := HN.out; omega)
            have hc' := ((HB.out.trans (HB2.out.mono HB.out.size)).cell (p := ⟨lb, lo + (q + j), none⟩) hlb).trans hc
            have hlt := HL.out.lt (q + j)
            obtain ⟨x, hx⟩ : ∃ x, x = l.getD (q + j) 0 := ⟨_, rfl⟩
            rw [← hx] at hc' hlt
            have HX := Lib.hid hx
            have ho := HO2.out.cell hjn
            have hof := HO2.out.frozen j
            clear hc hx
            go_wp2_with fail
            go_roundw
            case rel => exact ⟨j + 1, by omega, by go_num, HB2.out.setCell (Nat.le_refl _) _, by simp; exact HZ2.out, (HO2.out.set j _).congr (fun b hb => by
              unfold rowTo
              by_cases e : b = j
              · subst e
                rw [if_pos rfl, if_pos (by omega)]
                have : (sqF n l k b).v = x := by
                  show l.getD (k * n + b) 0 % 256 = x
                  rw [← HQ.out, ← HX.out]; exact Nat.mod_eq_of_lt hlt
                rw [this]
              · rw [if_neg e]
                by_cases e2 : b < j
                · rw [if_pos e2, if_pos (by omega)]
                · rw [if_neg e2, if_neg (by omega)])⟩
            case measure => simp [intOf]; omega
          · have hex : q + j ≥ N ∨ j = n := by omega
            have hrow := Lib.hid (show ∀ b, b < n → rowTo n l k j b = sqF n l k b from fun b hb => by
              unfold rowTo
              by_cases e : b < j
              · rw [if_pos e]
              · rw [if_neg e]
                refine GF.F.ext ?_
                show 0 = l.getD (k * n + b) 0 % 256
                rw [List.getD_eq_getElem?_getD, List.getElem?_eq_none (by rw [← HN.out, ← HQ.out]; omega)]
                rfl)
            have hg2 := HG.out.below HB2.out
            have HG2 := Lib.hid hg2
            have hbsz := HB.out.size
            clear hg2
            go_wp2_with (at_builtin; refine wpList_append_own _ rfl (.tmp 42) (.tmp 44) 30 rfl w.heap.size 29 i0 (.slice none 0 0) 1 24 Try.underlying30 hi0 hz0 hz1 hz2 rfl (by decide) u5 k (slices G C n k) rfl (HG2.out.outer.alloc _) ⟨wx.heap.size, 0, none⟩ 1 1 [.slice (some ⟨wr.heap.size, 0, none⟩) n n] rfl rfl (by intro j u hj; match j, hj with | 0, hj => (simp at hj; subst hj; simp [Addr.add])) (by intro u hu; simp at hu; subst hu; rfl) (by unfold maxLen; omega) (by omega) (by have := HZ2.out; simp; omega) ?_; intro v' w5 hown5 hgrow5 hnil5; have HO5 := Lib.hid (And.intro hown5 hgrow5); clear hown5 hgrow5 hnil5)
            go_roundw
            case rel =>
              obtain ⟨hown5, hgrow5⟩ := HO5.out
              have hz := HZ2.out
              have hg3 := HG2.out.of_blocks (w' := wx.alloc (.cells #[.slice (some ⟨wr.heap.size, 0, none⟩) n n] 29)) (fun b hb => Below.heap_alloc _ _ _ hb)
              have ho3 := (HO2.out.congr (g := fun b => .int .u8 (((sqF n l k b).v : Nat) : Int)) (fun b hb => by rw [hrow.out b hb])).alloc (.cells #[.slice (some ⟨wr.heap.size, 0, none⟩) n n] 29)
              have hP := hg3.push (by decide) ho3 (by omega) (fun a ha => by have := HG.out.lt ha; omega) ⟨Nat.le_refl _, by unfold maxLen; omega⟩ hown5 hgrow5
              exact ⟨k + 1, _, _, by omega, by go_num, ((HB.out.trans (HB2.out.mono hbsz)).alloc (by omega) _).grown hgrow5 (by simp; omega) (fun b hb => (HG2.out.outer.lt b hb).1), hP.congr (fun a b _ _ => by
                by_cases e : a = k
                · subst e; simp
                · simp [e])⟩
            case measure => simp [intOf]; omega
        · have hex : q + j ≥ N ∨ j = n := by omega
          have hrow := Lib.hid (show ∀ b, b < n → rowTo n l k j b = sqF n l k b from fun b hb => by
            unfold rowTo
            by_cases e : b < j
            · rw [if_pos e]
            · rw [if_neg e]
              refine GF.F.ext ?_
              show 0 = l.getD (k * n + b) 0 % 256
              rw [List.getD_eq_getElem?_getD, List.getElem?_eq_none (by rw [← HN.out, ← HQ.out]; omega)]
              rfl)
          have hg2 := HG.out.below HB2.out
          have HG2 := Lib.hid hg2
          have hbsz := HB.out.size
          clear hg2
          go_wp2_with (at_builtin; refine wpList_append_own _ rfl (.tmp 42) (.tmp 44) 30 rfl w.heap.size 29 i0 (.slice none 0 0) 1 24 Try.underlying30 hi0 hz0 hz1 hz2 rfl (by decide) u5 k (slices G C n k) rfl (HG2.out.outer.alloc _) ⟨wx.heap.size, 0, none⟩ 1 1 [.slice (some ⟨wr.heap.size, 0, none⟩) n n] rfl rfl (by intro j u hj; match j, hj with | 0, hj => (simp at hj; subst hj; simp [Addr.add])) (by intro u hu; simp at hu; subst hu; rfl) (by unfold maxLen; omega) (by omega) (by have := HZ2.out; simp; omega) ?_; intro v' w5 hown5 hgrow5 hnil5; have HO5 := Lib.hid (And.intro hown5 hgrow5); clear hown5 hgrow5 hnil5)
          go_roundw
          case rel =>
            obtain ⟨hown5, hgrow5⟩ := HO5.out
            have hz := HZ2.out
            have hg3 := HG2.out.of_blocks (w' := wx.alloc (.cells #[.slice (some ⟨wr.heap.size, 0, none⟩) n n] 29)) (fun b hb => Below.heap_alloc _ _ _ hb)
            have ho3 := (HO2.out.congr (g := fun b => .int .u8 (((sqF n l k b).v : Nat) : Int)) (fun b hb => by rw [hrow.out b hb])).alloc (.cells #[.slice (some ⟨wr.heap.size, 0, none⟩) n n] 29)
            have hP := hg3.push (by decide) ho3 (by omega) (fun a ha => by have := HG.out.lt ha; omega) ⟨Nat.le_refl _, by unfold maxLen; omega⟩ hown5 hgrow5
            exact ⟨k + 1, _, _, by omega, by go_num, ((HB.out.trans (HB2.out.mono hbsz)).alloc (by omega) _).grown hgrow5 (by simp; omega) (fun b hb => (HG2.out.outer.lt b hb).1), hP.congr (fun a b _ _ => by
              by_cases e : a = k
              · subst e; simp
              · simp [e])⟩
          case measure => simp [intOf]; omega
    · have hke : k = n := by omega
      have hg := HG.out
      rw [hke] at hg
      obtain ⟨R, cap, rfl, h1c, h2c, hgr⟩ := hg.grid (by decide) (by omega)
      have HG9 := Lib.hid hgr
      clear hg hgr hke
      go_wp2_with fail
      go_ret
      exact ⟨R, cap, G, C, rfl, h1c, h2c, HG9.out, HB.out⟩

end Go.Proofs.Ytpdjjodehahdoaa

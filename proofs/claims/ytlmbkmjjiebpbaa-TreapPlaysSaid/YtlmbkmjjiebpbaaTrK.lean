/- The contract of the law's 'known': an arena is joined and cut. -/
import Derived.Test.YtlmbkmjjiebpbaaTrI
namespace Go.Proofs.Ytlmbkmjjiebpbaa
open Go.RowKit
set_option linter.unusedVariables false

section
variable {w0 w : World} {g n : Nat} {L : List (List Nat)} {Q : World → (Nat → Prop) → Prop}

theorem j_join (h : Duo w0 w (ArT g n L) Q) (hQ : Framed Q) {x y : Int} {b : Bool} {L' : List (List Nat)} (hj : jn L x y = (b, L')) :
    Calls Try.prog 11 #[.pointer (some ⟨g, 0, none⟩), .int .i64 x, .int .i64 y] w fun e w' => e = .returned (.bool b) ∧ Duo w0 w' (ArT g n L') Q := by
  have := d_join h hQ x y
  rwa [hj] at this
theorem j_cut (h : Duo w0 w (ArT g n L) Q) (hQ : Framed Q) {x : Int} {b : Bool} {L' : List (List Nat)} (hj : ct L x = (b, L')) :
    Calls Try.prog 13 #[.pointer (some ⟨g, 0, none⟩), .int .i64 x] w fun e w' => e = .returned (.bool b) ∧ Duo w0 w' (ArT g n L') Q := by
  have := d_cut h hQ x
  rwa [hj] at this
theorem j_node (h : Duo w0 w (ArT g n L) Q) (hQ : Framed Q) (hn : n < 1048576) {m : Int} (hm : (n : Int) = m) {n' : Nat} (hn' : n + 1 = n') {L' : List (List Nat)} (hL : L ++ [[n]] = L') :
    Calls Try.prog 9 #[.pointer (some ⟨g, 0, none⟩)] w fun e w' => e = .returned (.int .i64 m) ∧ Duo w0 w' (ArT g n' L') Q := by
  subst hm hn' hL; exact d_node h hQ hn
theorem j_list (h : Duo w0 w (ArT g n L) Q) (hQ : Framed Q) {x : Int} {l : List Nat} (hl : lst L x = l) :
    Calls Try.prog 22 #[.pointer (some ⟨g, 0, none⟩), .int .i64 x] w fun e w' => ∃ v, e = .returned v ∧ Duo w0 w' (ArT g n L) Q ∧ Rd w' (fun k => w.heap.size ≤ k ∧ k < w'.heap.size) v l ∧ Mod w w' NoB := by
  subst hl; exact d_list h hQ x
theorem j_same (h : Duo w0 w (ArT g n L) Q) {x y : Int} {b : Bool} (hj : same L x y = b) :
    Calls Try.prog 15 #[.pointer (some ⟨g, 0, none⟩), .int .i64 x, .int .i64 y] w fun e w' => e = .returned (.bool b) ∧ w = w' := hj ▸ d_same h x y
theorem j_len (h : Duo w0 w (ArT g n L) Q) {x m : Int} (hj : ((lst L x).length : Int) = m) :
    Calls Try.prog 19 #[.pointer (some ⟨g, 0, none⟩), .int .i64 x] w fun e w' => e = .returned (.int .i64 m) ∧ w = w' := hj ▸ d_len h x
theorem j_at (h : Duo w0 w (ArT g n L) Q) {x i m : Int} (hj : atL (lst L x) i = m) :
    Calls Try.prog 23 #[.pointer (some ⟨g, 0, none⟩), .int .i64 x, .int .i64 i] w fun e w' => e = .returned (.int .i64 m) ∧ w = w' := hj ▸ d_at h x i
theorem Duo.drewN (h : Duo w0 w (ArT g n L) Q) (hQ : Framed Q) (k : Nat) : Duo w0 (w.drewN k) (ArT g n L) Q := h.quiet (ArT.framed _ _ _) hQ ((Mod.refl _ _).drewN k)
theorem Duo.drew (h : Duo w0 w (ArT g n L) Q) (hQ : Framed Q) : Duo w0 w.drew (ArT g n L) Q := h.quiet (ArT.framed _ _ _) hQ ((Mod.refl _ _).drew)
theorem Duo.alloc (h : Duo w0 w (ArT g n L) Q) (hQ : Framed Q) (o : Obj) : Duo w0 (w.alloc o) (ArT g n L) Q := h.quiet (ArT.framed _ _ _) hQ ((Mod.refl _ _).alloc o)
end

theorem j_index {w0 w : World} {g n : Nat} {L : List (List Nat)} {Q : World → (Nat → Prop) → Prop} (h : Duo w0 w (ArT g n L) Q) (hQ : Framed Q) {x m : Int} (hj : idx L x = m) :
    Calls Try.prog 17 #[.pointer (some ⟨g, 0, none⟩), .int .i64 x] w fun e w' => e = .returned (.int .i64 m) ∧ Duo w0 w' (ArT g n L) Q := by
  subst hj
  refine (d_index h x).mono ?_
  rintro e w' ⟨rfl, k, rfl⟩
  exact ⟨rfl, h.drewN hQ k⟩

/-- A new arena. -/
theorem d_new (w0 w : World) (hm : Mod w0 w NoB) (s : Int) : Calls Try.prog 8 #[.int .u64 s] w fun e w' => ∃ g, e = .returned (.pointer (some ⟨g, 0, none⟩)) ∧ Duo w0 w' (ArT g 0 []) Nil ∧ Mod w w' NoB ∧ g = w.heap.size := by
  refine (tnew_any w s).mono ?_
  rintro e w' ⟨rfl, h1, h2, h3⟩
  refine ⟨_, rfl, Duo.start (hm.trans h2 (fun _ _ h => h)) h1 (fun k hk => ?_), h2, rfl⟩
  unfold OneB at hk
  subst hk
  exact ⟨hm.size, by omega⟩

set_option maxHeartbeats 4000000 in
set_option maxRecDepth 100000 in
theorem known_any (w : World) : Calls Try.prog 7 #[] w fun e w' => e = .returned (.bool true) ∧ Mod w w' NoB := by
  have e1 : jn [[0], [1], [2]] 1 0 = (true, [[1, 0], [2]]) := by decide
  have e2 : jn [[1, 0], [2]] 0 2 = (true, [[1, 0, 2]]) := by decide
  have e3 : jn [[1, 0, 2]] 2 1 = (false, [[1, 0, 2]]) := by decide
  have e4 : lst [[1, 0, 2]] 2 = [1, 0, 2] := by decide
  have e5 : ct [[1, 0, 2]] 0 = (true, [[1], [0, 2]]) := by decide
  have e6 : ((lst [[1], [0, 2]] 1).length : Int) = 1 := by decide
  have e7 : same [[1], [0, 2]] 0 2 = true := by decide
  have e8 : same [[1], [0, 2]] 0 1 = false := by decide
  have e9 : idx [[1], [0, 2]] 2 = 1 := by decide
  have e10 : atL (lst [[1], [0, 2]] 0) 1 = 2 := by decide
  have e11 : atL (lst [[1], [0, 2]] 0) 2 = -1 := by decide
  have e12 : ct [[1], [0, 2]] 1 = (false, [[1], [0, 2]]) := by decide
  have e13 : idx [[1], [0, 2]] 9 = -1 := by decide
  have HE := Lib.hid (And.intro e1 (And.intro e2 (And.intro e3 (And.intro e4 (And.intro e5 (And.intro e6 (And.intro e7 (And.intro e8 (And.intro e9 (And.intro e10 (And.intro e11 (And.intro e12 e13))))))))))))
  clear e1 e2 e3 e4 e5 e6 e7 e8 e9 e10 e11 e12 e13
  go_enter Try.func7, Try.ntmps7
  go_wp2_with fail
  refine (d_new w w (Mod.refl _ _) 7).mono ?_
  rintro e w1 ⟨g, rfl, h1, -, -⟩
  have H := Lib.hid h1
  clear h1
  go_wp2_with fail
  refine (j_node H.out Nil.framed (by omega) (m := 0) rfl (n' := 1) rfl (L' := [[0]]) rfl).mono ?_
  rintro e w2 ⟨rfl, h1⟩
  have H2 := Lib.hid h1
  clear h1 H
  go_wp2_with fail
  refine (j_node H2.out Nil.framed (by omega) (m := 1) rfl (n' := 2) rfl (L' := [[0], [1]]) rfl).mono ?_
  rintro e w3 ⟨rfl, h1⟩
  have H3 := Lib.hid h1
  clear h1 H2
  go_wp2_with fail
  refine (j_node H3.out Nil.framed (by omega) (m := 2) rfl (n' := 3) rfl (L' := [[0], [1], [2]]) rfl).mono ?_
  rintro e w4 ⟨rfl, h1⟩
  have H4 := Lib.hid h1
  clear h1 H3
  go_wp2_with fail
  refine (j_join H4.out Nil.framed HE.out.1).mono ?_
  rintro e w5 ⟨rfl, h1⟩
  have H5 := Lib.hid h1
  clear h1 H4
  go_wp2_with fail
  refine (j_join H5.out Nil.framed HE.out.2.1).mono ?_
  rintro e w6 ⟨rfl, h1⟩
  have H6 := Lib.hid h1
  clear h1 H5
  go_wp2_with fail
  refine (j_join H6.out Nil.framed HE.out.2.2.1).mono ?_
  rintro e w7 ⟨rfl, h1⟩
  have H7 := Lib.hid h1
  clear h1 H6
  go_wp2_with fail
  refine (j_list H7.out Nil.framed (x := 2) HE.out.2.2.2.1).mono ?_
  rintro e w8 ⟨v, rfl, h1, r1, m1⟩
  have H8 := Lib.hid (Duo.beside (Q := RdT v [1, 0, 2]) H7.out (ArT.framed _ _ _) m1 r1 (fun _ h => h))
  clear h1 H7 r1 m1
  go_wp2_with fail
  refine (j_cut H8.out (RdT.framed _ _) HE.out.2.2.2.2.1).mono ?_
  rintro e w9 ⟨rfl, h1⟩
  have H9 := Lib.hid h1
  clear h1 H8
  go_wp2_with fail
  obtain ⟨T, hT⟩ := H9.out.swap.left
  refine (ints_eq _ _ _ _ _ [1, 0, 2] (hT.mod ((Mod.refl _ NoB).alloc _) (by simp [NoB])) (Rd.lit _ [1, 0, 2] _ _ rfl (by decide))).mono ?_
  rintro e w10 ⟨rfl, k1, hw⟩
  have H10 : Hid (Duo w w10 (ArT g 3 [[1], [0, 2]]) (RdT v [1, 0, 2])) := by rw [hw]; exact (H9.out.alloc (RdT.framed _ _) _).drewN (RdT.framed _ _) k1
  clear hT H9 hw
  go_wp2_with fail
  refine (j_len H10.out HE.out.2.2.2.2.2.1).mono ?_
  rintro e w1 ⟨rfl, rfl⟩
  go_wp2_with fail
  refine (j_same H10.out HE.out.2.2.2.2.2.2.1).mono ?_
  rintro e w1 ⟨rfl, rfl⟩
  go_wp2_with fail
  refine (j_same H10.out HE.out.2.2.2.2.2.2.2.1).mono ?_
  rintro e w1 ⟨rfl, rfl⟩
  go_wp2_with fail
  refine (j_index H10.out (RdT.framed _ _) HE.out.2.2.2.2.2.2.2.2.1).mono ?_
  rintro e w11 ⟨rfl, h1⟩
  have H11 := Lib.hid h1
  clear H10 h1
  go_wp2_with fail
  refine (j_at H11.out HE.out.2.2.2.2.2.2.2.2.2.1).mono ?_
  rintro e w1 ⟨rfl, rfl⟩
  go_wp2_with fail
  refine (j_at H11.out HE.out.2.2.2.2.2.2.2.2.2.2.1).mono ?_
  rintro e w1 ⟨rfl, rfl⟩
  go_wp2_with fail
  refine (j_cut H11.out (RdT.framed _ _) HE.out.2.2.2.2.2.2.2.2.2.2.2.1).mono ?_
  rintro e w12 ⟨rfl, h1⟩
  have H12 := Lib.hid h1
  clear h1 H11
  go_wp2_with fail
  refine (j_index H12.out (RdT.framed _ _) HE.out.2.2.2.2.2.2.2.2.2.2.2.2).mono ?_
  rintro e w13 ⟨rfl, h1⟩
  have H13 := Lib.hid h1
  clear H12 h1
  go_wp2_with fail
  go_ret
  exact ⟨rfl, H13.out.mod⟩
end Go.Proofs.Ytlmbkmjjiebpbaa

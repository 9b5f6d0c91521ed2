/- What date.Parse answers of any text. -/
import Derived.Test.YtffoncjofjgojaaGreatDoorZg
import Derived.Test.YtffoncjofjgojaaGreatDoorProg
import Derived.Shelf.Lays
import Derived.Shelf.Strings.Search3
set_option linter.all false
/-! part TryzIndex -/
namespace Go.Proofs
open Go.Shelf
def Tryz.renI : Go.Shelf.Ren := ⟨fun | 143 => 242 | 217 => 163 | 219 => 186 | 224 => 231 | 225 => 230 | 266 => 214 | 267 => 232 | 314 => 254 | n => n, fun | 3 => 3 | 4 => 4 | 5 => 5 | 9 => 9 | 46 => 147 | 51 => 178 | 146 => 229 | n => n, fun | 1 => 0 | n => n⟩
theorem Tryz.l143 : Go.Proofs.Lays.n143 Tryz.prog Tryz.renI := {
  mixed := by kernel_rfl
  f143 := Tryz.func242.trans (congrArg some (by kernel_rfl))
  f217 := Tryz.func163.trans (congrArg some (by kernel_rfl))
  f219 := Tryz.func186.trans (congrArg some (by kernel_rfl))
  f224 := Tryz.func231.trans (congrArg some (by kernel_rfl))
  f225 := Tryz.func230.trans (congrArg some (by kernel_rfl))
  f266 := Tryz.func214.trans (congrArg some (by kernel_rfl))
  f267 := Tryz.func232.trans (congrArg some (by kernel_rfl))
  f314 := Tryz.func254.trans (congrArg some (by kernel_rfl))
  t3 := Tryz.underlying3
  a3 := Tryz.isAgg3
  z3 := Tryz.sizeOf3
  v3 := Tryz.zeroValue3
  t4 := Tryz.underlying4
  a4 := Tryz.isAgg4
  z4 := Tryz.sizeOf4
  v4 := Tryz.zeroValue4
  t5 := Tryz.underlying5
  a5 := Tryz.isAgg5
  z5 := Tryz.sizeOf5
  v5 := Tryz.zeroValue5
  t9 := Tryz.underlying9
  a9 := Tryz.isAgg9
  z9 := Tryz.sizeOf9
  v9 := Tryz.zeroValue9
  t46 := Tryz.underlying147
  a46 := Tryz.isAgg147
  z46 := Tryz.sizeOf147
  v46 := Tryz.zeroValue147
  t51 := Tryz.underlying178
  a51 := Tryz.isAgg178
  z51 := Tryz.sizeOf178
  v51 := Tryz.zeroValue178
  t146 := Tryz.underlying229
  a146 := Tryz.isAgg229
  z146 := Tryz.sizeOf229
  v146 := Tryz.zeroValue229
  g1 := by kernel_rfl
  }
end Go.Proofs

/-! part Z100 -/
namespace Go.Av
open Go.Proofs Go.RowKit
set_option maxRecDepth 100000
theorem index242 (l m : List UInt8) (hl : l.length ≤ 1000000) : PureC Tryz.prog 242 [.str l, .str m] (.int (Go.Lib.index l m)) := by
  refine ⟨⟨_, Tryz.func242, by kernel_rfl, by kernel_rfl⟩, fun M w vs hH hr => ?_⟩
  cases hr with
  | cons h1 hs =>
    cases hs with
    | cons h2 hs =>
      cases hs; cases h1; cases h2
      obtain ⟨k, hk⟩ := hH.g
      refine (Any.strings_Index Tryz.l143 ⟨l.toArray⟩ ⟨m.toArray⟩ k w (by show l.toArray.size < _; simp; omega) (hH _ _ _ hk)).mono fun e w' ⟨e1, e2⟩ => ?_
      subst e2
      exact ⟨_, M, e1, .sc _ rfl, hH, Mem.le_refl _, fun _ _ => rfl, Below.refl _ _⟩
def digB (s : List UInt8) : Int := if (numB 9999 s).2 = 0 then (numB 9999 s).1 else -1
theorem dig_b (s : List UInt8) : -1 ≤ digB s ∧ digB s ≤ 9999 := by
  have h1 := numB_nn 9999 s
  have h2 := numB_le (m := 9999) (l := s) (by omega)
  unfold digB; split <;> omega
theorem digits243 (s : List UInt8) (hs : s.length ≤ 1000000) : PureC Tryz.prog 243 [.str s] (.int (digB s)) := by
  refine pure_of_aw (ys := [_]) [] [] [] mixed Tryz.func243 rfl (by kernel_rfl) (by kernel_rfl) (by simp [Tryz.ntmps243]) rfl ?_
  have hn := number60 s 9999 (by omega) (by omega) (by omega)
  unfold digB
  generalize numB 9999 s = q at *
  simp
  refine pcall_of hn (by simp) ?_
  by_cases c : q.2 = 0
  · simp [c, Tryz.results243]
  · have c' : (q.2 != 0) = true := by simpa using c
    simp [c, c', Tryz.results243]
def monIx (m : List UInt8) : Option Nat := if m ∈ monL then some (monL.idxOf m) else none
theorem mon_ix {m : List UInt8} (h : m.length = 3) :
    (monIx m = none ∧ (Go.Lib.index monsL m < 0 ∨ (0 ≤ Go.Lib.index monsL m ∧ 0 < (Go.Lib.index monsL m).tmod 3))) ∨
    (∃ k : Nat, monIx m = some k ∧ k < 12 ∧ Go.Lib.index monsL m = ((3 * k : Nat) : Int) ∧ monB ((k + 1 : Nat) : Int) = m) := by
  by_cases hm : m ∈ monL
  · right
    unfold monIx
    rw [if_pos hm]
    simp only [monL, List.mem_cons, List.not_mem_nil, or_false] at hm
    rcases hm with rfl | rfl | rfl | rfl | rfl | rfl | rfl | rfl | rfl | rfl | rfl | rfl
    all_goals exact ⟨_, rfl, by decide, by decide, by decide⟩
  · left
    refine ⟨by unfold monIx; rw [if_neg hm], ?_⟩
    rcases Go.Lib.index_spec monsL m with ⟨h1, _⟩ | ⟨i, h1, h2, h3, _⟩
    · left; omega
    · right
      rw [h1]
      refine ⟨by omega, ?_⟩
      rw [Int.tmod_eq_emod_of_nonneg (by omega)]
      rcases Nat.eq_zero_or_pos (i % 3) with h0 | h0
      · exfalso
        have hp : m <+: monsL.drop i := List.isPrefixOf_iff_prefix.1 h3
        have hm2 : m = (monsL.drop i).take 3 := by rw [← h]; exact (List.prefix_iff_eq_take.1 hp)
        have hl : monsL.length = 36 := by decide
        rw [hl] at h2
        obtain ⟨q, rfl⟩ : ∃ q, i = 3 * q := ⟨i / 3, by omega⟩
        rcases (by omega : q = 0 ∨ q = 1 ∨ q = 2 ∨ q = 3 ∨ q = 4 ∨ q = 5 ∨ q = 6 ∨ q = 7 ∨ q = 8 ∨ q = 9 ∨ q = 10 ∨ q = 11 ∨ q = 12) with e | e | e | e | e | e | e | e | e | e | e | e | e
        all_goals (subst e; apply hm; rw [hm2]; first | decide | skip)
        rw [hm2] at h; simp [monsL] at h
      · omega
theorem monIx_ne {m : List UInt8} (h : m.length ≠ 3) : monIx m = none := by
  unfold monIx
  rw [if_neg]
  intro hm
  simp only [monL, List.mem_cons, List.not_mem_nil, or_false] at hm
  rcases hm with rfl | rfl | rfl | rfl | rfl | rfl | rfl | rfl | rfl | rfl | rfl | rfl <;> exact h rfl
def yrB (y : List UInt8) : Int := if y.length = 2 ∧ 0 ≤ digB y then (if digB y + 1900 < 1970 then digB y + 2000 else digB y + 1900) else digB y
def datO (d m y : List UInt8) : Bool := match monIx m with | none => false | some k => decide (1970 ≤ yrB y) && decide (1 ≤ digB d) && decide (digB d ≤ lenB (yrB y) ((k + 1 : Nat) : Int))
def datC (c : Civ) (d m y : List UInt8) : Civ := match monIx m with | none => c | some k => { c with y := yrB y, mo := ((k + 1 : Nat) : Int), d := digB d }
set_option maxHeartbeats 2000000 in
theorem dated199 (c : Civ) (d m y : List UInt8) (hd : d.length ≤ 1000000) (hm : m.length ≤ 1000000) (hy : y.length ≤ 1000000) :
    GenC Tryz.prog 199 [.obj 0 0, .p (.str d), .p (.str m), .p (.str y)] ⟨[(0, civO c)], [], 1⟩ (.p (.bool (datO d m y))) ⟨[(0, civO (datC c d m y))], [], 1⟩ := by
  have hix := index242 monsL m (by decide)
  have hdd := digits243 d hd
  have hdy := digits243 y hy
  have bd := dig_b d
  have by_ := dig_b y
  refine gen_of_aw (rs := [_]) [] [(9, [(3, .r 1), (9, .r 1), (16, .r 1), (20, .r 1), (24, .r 1)])] [(1, 0)] mixed Tryz.func199 rfl (by kernel_rfl) (by kernel_rfl) (by simp [Tryz.ntmps199]) rfl ?_
  simp
  refine pcall_of hix (by simp [monsL]) ?_
  by_cases c3 : m.length = 3
  · rcases mon_ix c3 with ⟨h1, h2⟩ | ⟨k, h1, hk, h2, h3⟩
    · unfold datO datC
      rw [h1]
      generalize Go.Lib.index monsL m = i at *
      rcases h2 with h2 | ⟨h2, h4⟩
      · simp [c3, h2, Tryz.results199]
        exact ⟨[], by simp⟩
      · have h2' : ¬ i < 0 := by omega
        simp [c3, h2', h4, Tryz.results199]
        exact ⟨[], by simp⟩
    · unfold datO datC
      rw [h1, h2]
      have g1 : ¬ 3 * (k : Int) < 0 := by omega
      have g2 : ¬ 0 < (3 * (k : Int)).tmod 3 := by rw [Int.tmod_eq_emod_of_nonneg (by omega)]; omega
      have g3 : IntKind.i64.wrap ((3 * (k : Int)).tdiv 3) = (k : Int) := by rw [Int.tdiv_eq_ediv_of_nonneg (by omega), wrap64_id (by omega) (by omega)]; omega
      have g4 : IntKind.i64.wrap ((k : Int) + 1) = (k : Int) + 1 := wrap64_id (by omega) (by omega)
      have g5 : IntKind.i64.wrap (k : Int) = (k : Int) := wrap64_id (by omega) (by omega)
      simp [c3, g1, g2]
      refine pcall_of hdd (by simp) ?_
      simp [g3, g4, g5]
      refine pcall_of hdy (by simp) ?_
      by_cases y2 : y.length = 2
      · by_cases y3 : 0 ≤ digB y
        · have w1 : IntKind.i64.wrap (digB y + 1900) = digB y + 1900 := wrap64_id (by omega) (by omega)
          by_cases y4 : digB y + 1900 < 1970
          · have w2 : IntKind.i64.wrap (digB y + 1900 + 100) = digB y + 2000 := by rw [wrap64_id (by omega) (by omega)]; omega
            have hlen := length203 (digB y + 2000) ((k : Int) + 1)
            have hy1 : yrB y = digB y + 2000 := by unfold yrB; simp [y2, y3, w1, y4, w2]
            rw [hy1]
            by_cases e1 : 1970 ≤ digB y + 2000
            · by_cases e2 : 1 ≤ digB d
              · simp [y2, y3, w1, y4, w2, e1, e2]
                refine call_of hlen ?_
                by_cases e3 : digB d ≤ lenB (digB y + 2000) ((k : Int) + 1)
                · simp [e3, Tryz.results199]
                  exact ⟨[], by simp⟩
                · simp [e3, Tryz.results199]
                  exact ⟨[], by simp⟩
              · simp [y2, y3, w1, y4, w2, e1, e2, Tryz.results199]
                exact ⟨[], by simp⟩
            · simp [y2, y3, w1, y4, w2, e1, Tryz.results199]
              exact ⟨[], by simp⟩
          have hlen := length203 (digB y + 1900) ((k : Int) + 1)
          have hy1 : yrB y = digB y + 1900 := by unfold yrB; simp [y2, y3, w1, y4]
          rw [hy1]
          by_cases e1 : 1970 ≤ digB y + 1900
          · by_cases e2 : 1 ≤ digB d
            · simp [y2, y3, w1, y4, e1, e2]
              refine call_of hlen ?_
              by_cases e3 : digB d ≤ lenB (digB y + 1900) ((k : Int) + 1)
              · simp [e3, Tryz.results199]
                exact ⟨[], by simp⟩
              · simp [e3, Tryz.results199]
                exact ⟨[], by simp⟩
            · simp [y2, y3, w1, y4, e1, e2, Tryz.results199]
              exact ⟨[], by simp⟩
          · simp [y2, y3, w1, y4, e1, Tryz.results199]
            exact ⟨[], by simp⟩
        have hlen := length203 (digB y) ((k : Int) + 1)
        have hy1 : yrB y = digB y := by unfold yrB; simp [y2, y3]
        rw [hy1]
        by_cases e1 : 1970 ≤ digB y
        · by_cases e2 : 1 ≤ digB d
          · simp [y2, y3, e1, e2]
            refine call_of hlen ?_
            by_cases e3 : digB d ≤ lenB (digB y) ((k : Int) + 1)
            · simp [e3, Tryz.results199]
              exact ⟨[], by simp⟩
            · simp [e3, Tryz.results199]
              exact ⟨[], by simp⟩
          · simp [y2, y3, e1, e2, Tryz.results199]
            exact ⟨[], by simp⟩
        · simp [y2, y3, e1, Tryz.results199]
          exact ⟨[], by simp⟩
      have y2' : ((y.length : Int) == 2) = false := by simp; omega
      have hlen := length203 (digB y) ((k : Int) + 1)
      have hy1 : yrB y = digB y := by unfold yrB; simp [y2, y2']
      rw [hy1]
      by_cases e1 : 1970 ≤ digB y
      · by_cases e2 : 1 ≤ digB d
        · simp [y2, y2', e1, e2]
          refine call_of hlen ?_
          by_cases e3 : digB d ≤ lenB (digB y) ((k : Int) + 1)
          · simp [e3, Tryz.results199]
            exact ⟨[], by simp⟩
          · simp [e3, Tryz.results199]
            exact ⟨[], by simp⟩
        · simp [y2, y2', e1, e2, Tryz.results199]
          exact ⟨[], by simp⟩
      · simp [y2, y2', e1, Tryz.results199]
        exact ⟨[], by simp⟩
  · have h1 := monIx_ne c3
    have c3' : ((m.length : Int) != 3) = true := by simp; omega
    unfold datO datC
    rw [h1]
    generalize Go.Lib.index monsL m = i at *
    simp [c3, c3', Tryz.results199]
    exact ⟨[], by simp⟩
end Go.Av

/-! part Z101 -/
namespace Go.Av
open Go.Proofs Go.RowKit
set_option maxRecDepth 100000
theorem splB_le (c : UInt8) : ∀ (n : Nat) (l : List UInt8), ∀ x ∈ splB c n l, x.length ≤ l.length
  | 0, l, x, h => by simp only [splB, List.mem_singleton] at h; subst h; exact Nat.le_refl _
  | n + 1, l, x, h => by
    unfold splB at h
    split at h
    · simp only [List.mem_singleton] at h; subst h; exact Nat.le_refl _
    · rcases List.mem_cons.1 h with h | h
      · subst h; simp; omega
      · have := splB_le c n _ x h
        simp at this; omega
def timX (s : List UInt8) : Option (List UInt8 × List UInt8 × List UInt8) :=
  match splB 58 (s.count 58) s with
  | [a, b, e] => if s.length = 8 ∧ a.length = 2 ∧ b.length = 2 then some (a, b, e) else none
  | _ => none
def timO (s : List UInt8) : Bool := match timX s with
  | none => false
  | some q => decide (0 ≤ digB q.1) && decide (digB q.1 < 24) && decide (0 ≤ digB q.2.1) && decide (digB q.2.1 < 60) && decide (0 ≤ digB q.2.2) && decide (digB q.2.2 < 60)
def timC (c : Civ) (s : List UInt8) : Civ := match timX s with
  | none => c
  | some q => { c with h := digB q.1, mi := digB q.2.1, s := digB q.2.2 }
theorem three {α : Type} {L : List α} (h : L.length = 3) : ∃ a b e, L = [a, b, e] := by
  match L, h with
  | [a, b, e], _ => exact ⟨a, b, e, rfl⟩
set_option maxHeartbeats 2000000 in
theorem timed200 (c : Civ) (s : List UInt8) (hs : s.length ≤ 1000000) :
    GenC Tryz.prog 200 [.obj 0 0, .p (.str s)] ⟨[(0, civO c)], [], 1⟩ (.p (.bool (timO s))) ⟨[(0, civO (timC c s))], [], 1⟩ := by
  have hsp := split51 s 58 hs
  have hle := splB_le 58 (s.count 58) s
  unfold timO timC timX
  generalize splB 58 (s.count 58) s = L at *
  refine gen_of_awT (rs := [_]) [] [] [] [(4, (.one 0 (.one 1 (.one 2 (.one 3 (.one 4 (.one 5 (.one 6 (.one 7 (.one 8 (.one 9 (.one 10 (.one 11 (.one 12 (.one 13 (.one 14 (.one 15 (.one 16 (.br 17 (.one 18 (.one 19 (.br 20 (.one 21 (.one 22 (.br 23 .lf .lf))) .lf))) .lf)))))))))))))))))))] mixed Tryz.func200 rfl (by kernel_rfl) (by kernel_rfl) (by simp [Tryz.ntmps200]) rfl ?_
  simp
  refine pcall_of hsp (by simp) ?_
  by_cases c8 : s.length = 8
  · by_cases c3 : L.length = 3
    · obtain ⟨a, b, e, rfl⟩ := three c3
      have la := hle a (by simp)
      have lb := hle b (by simp)
      have le := hle e (by simp)
      by_cases ca : a.length = 2
      · by_cases cb : b.length = 2
        · have da := digits243 a (by omega)
          have db := digits243 b (by omega)
          have de := digits243 e (by omega)
          simp [c8, ca, cb]
          refine call_of da ?_
          simp
          refine call_of db ?_
          simp
          refine call_of de ?_
          generalize digB a = A at *
          generalize digB b = B at *
          generalize digB e = E at *
          by_cases a0 : 0 ≤ A
          · by_cases a1 : A < 24
            · by_cases b0 : 0 ≤ B
              · by_cases b1 : B < 60
                · by_cases e0 : 0 ≤ E
                  · by_cases e1 : E < 60
                    · simp [a0, a1, b0, b1, e0, e1, Tryz.results200]
                      exact ⟨[], by simp⟩
                    · simp [a0, a1, b0, b1, e0, e1, Tryz.results200]
                      exact ⟨[], by simp⟩
                  · simp [a0, a1, b0, b1, e0, Tryz.results200]
                    exact ⟨[], by simp⟩
                · simp [a0, a1, b0, b1, Tryz.results200]
                  exact ⟨[], by simp⟩
              · simp [a0, a1, b0, Tryz.results200]
                exact ⟨[], by simp⟩
            · simp [a0, a1, Tryz.results200]
              exact ⟨[], by simp⟩
          · simp [a0, Tryz.results200]
            exact ⟨[], by simp⟩
        · have cb' : ((b.length : Int) != 2) = true := by simp; omega
          simp [c8, ca, cb, cb', Tryz.results200]
          exact ⟨[], by simp⟩
      · have ca' : ((a.length : Int) != 2) = true := by simp; omega
        simp [c8, ca, ca', Tryz.results200]
        exact ⟨[], by simp⟩
    · have c3' : ((L.length : Int) != 3) = true := by simp; omega
      have hX : (match L with | [a, b, e] => if s.length = 8 ∧ a.length = 2 ∧ b.length = 2 then some (a, b, e) else none | _ => (none : Option (List UInt8 × List UInt8 × List UInt8))) = none := by
        match L, c3 with
        | [], _ => rfl
        | [_], _ => rfl
        | [_, _], _ => rfl
        | [_, _, _], h => exact absurd rfl h
        | _ :: _ :: _ :: _ :: _, _ => rfl
      rw [hX]
      simp [c8, c3, c3', Tryz.results200]
      exact ⟨[], by simp⟩
  · have c8' : ((s.length : Int) != 8) = true := by simp; omega
    have hX : (match L with | [a, b, e] => if s.length = 8 ∧ a.length = 2 ∧ b.length = 2 then some (a, b, e) else none | _ => (none : Option (List UInt8 × List UInt8 × List UInt8))) = none := by
      split
      · rw [if_neg (fun h => c8 h.1)]
      · rfl
    rw [hX]
    simp [c8, c8', Tryz.results200]
    exact ⟨[], by simp⟩
end Go.Av

/-! part Z102 -/
namespace Go.Av
open Go.Proofs Go.RowKit
set_option maxRecDepth 100000
def sfxB (l : List UInt8) (c : UInt8) : Bool := decide (l.getLast? = some c)
theorem hasS241 (l : List UInt8) (c : UInt8) (hl : l.length ≤ 1000000) : PureC Tryz.prog 241 [.str l, .str [c]] (.bool (sfxB l c)) := by
  refine pure_of_aw (ys := [_]) [] [] [] mixed Tryz.func241 rfl (by kernel_rfl) (by kernel_rfl) (by simp [Tryz.ntmps241]) rfl ?_
  unfold sfxB
  rcases List.eq_nil_or_concat l with rfl | ⟨m, x, rfl⟩
  · simp [Tryz.results241]
  · have e1 : (1 : Int) ≤ (m.length : Int) + 1 := by omega
    have hl' : m.length + 1 ≤ 1000000 := by simpa using hl
    have w : IntKind.i64.wrap ((m.length : Int) + 1 - 1) = (m.length : Int) := by rw [wrap64_id (by omega) (by omega)]; omega
    have w' : IntKind.i64.wrap (m.length : Int) = (m.length : Int) := wrap64_id (by omega) (by omega)
    by_cases c1 : x = c
    · subst c1
      simp [e1, w, w', Tryz.results241]
    · simp [e1, w, w', c1, Tryz.results241]
theorem hasS198 (l : List UInt8) (c : UInt8) (hl : l.length ≤ 1000000) : PureC Tryz.prog 198 [.str l, .str [c]] (.bool (sfxB l c)) := by
  refine pure_of_aw (ys := [_]) [] [] [] mixed Tryz.func198 rfl (by kernel_rfl) (by kernel_rfl) (by simp [Tryz.ntmps198]) rfl ?_
  simp
  refine pcall_of (hasS241 l c hl) (by simp) ?_
  simp [Tryz.results198]
def civ0 : Civ := ⟨0, 0, 0, 0, 0, 0, 0⟩
def partsL : List (List UInt8) → Option (Civ × Int)
  | [p0, p1, p2, p3, p4, p5] =>
    if sfxB p0 44 = true ∧ datO p1 p2 p3 = true ∧ timO p4 = true then some (timC (datC civ0 p1 p2 p3) p4, 0)
    else if p2 = [] ∧ datO p3 p1 p5 = true ∧ timO p4 = true then some (timC (datC civ0 p3 p1 p5) p4, 2) else none
  | [_, p1, p2, _] => if p1.count 45 = 2 then match splB 45 2 p1 with
      | [q0, q1, q2] => if datO q0 q1 q2 = true ∧ timO p2 = true then some (timC (datC civ0 q0 q1 q2) p2, 1) else none
      | _ => none
    else none
  | [_, p1, p2, p3, p4] => if datO p2 p1 p4 = true ∧ timO p3 = true then some (timC (datC civ0 p2 p1 p4) p3, 2) else none
  | _ => none
def partsB (s : List UInt8) : Option (Civ × Int) := partsL (splB 32 (s.count 32) s)
theorem dat_tim {c1 c2 : Civ} {d m y t : List UInt8} (hw : c1.w = c2.w) (hd : datO d m y = true) (ht : timO t = true) : timC (datC c1 d m y) t = timC (datC c2 d m y) t := by
  unfold datO at hd
  unfold timO at ht
  unfold timC datC
  cases h1 : monIx m with
  | none => rw [h1] at hd; cases hd
  | some k =>
    cases h2 : timX t with
    | none => rw [h2] at ht; cases ht
    | some q => simp [hw]
theorem datC_w (c : Civ) (d m y : List UInt8) : (datC c d m y).w = c.w := by unfold datC; split <;> rfl
theorem timC_w (c : Civ) (s : List UInt8) : (timC c s).w = c.w := by unfold timC; split <;> rfl
/-- what it answers -/
def PRes (s : List UInt8) : Option (Civ × Int) → Prop
  | some q => PureC Tryz.prog 151 [.str s] (.tp [.agg false (civP q.1), .int q.2])
  | none => ∃ c, PureC Tryz.prog 151 [.str s] (.tp [.agg false (civP c), .int (-1)])
theorem six {α : Type} {L : List α} (h : L.length = 6) : ∃ a b c d e f, L = [a, b, c, d, e, f] := by
  match L, h with
  | [a, b, c, d, e, f], _ => exact ⟨a, b, c, d, e, f, rfl⟩
theorem five {α : Type} {L : List α} (h : L.length = 5) : ∃ a b c d e, L = [a, b, c, d, e] := by
  match L, h with
  | [a, b, c, d, e], _ => exact ⟨a, b, c, d, e, rfl⟩
theorem four {α : Type} {L : List α} (h : L.length = 4) : ∃ a b c d, L = [a, b, c, d] := by
  match L, h with
  | [a, b, c, d], _ => exact ⟨a, b, c, d, rfl⟩

set_option maxHeartbeats 8000000 in
theorem parts_six (s : List UInt8) (hs : s.length ≤ 1000000) (p0 p1 p2 p3 p4 p5 : List UInt8) (hL : splB 32 (s.count 32) s = [p0, p1, p2, p3, p4, p5]) : PRes s (partsL [p0, p1, p2, p3, p4, p5]) := by
  have hsp := split51 s 32 hs
  have hle := splB_le 32 (s.count 32) s
  rw [hL] at hsp hle
  have l0 := hle p0 (by simp)
  have l1 := hle p1 (by simp)
  have l2 := hle p2 (by simp)
  have l3 := hle p3 (by simp)
  have l4 := hle p4 (by simp)
  have l5 := hle p5 (by simp)
  have hsx := hasS198 p0 44 (by omega)
  have e : partsL [p0, p1, p2, p3, p4, p5] = if sfxB p0 44 = true ∧ datO p1 p2 p3 = true ∧ timO p4 = true then some (timC (datC civ0 p1 p2 p3) p4, 0)
    else if p2 = [] ∧ datO p3 p1 p5 = true ∧ timO p4 = true then some (timC (datC civ0 p3 p1 p5) p4, 2) else none := rfl
  rw [e]
  clear e
  cases hx : sfxB p0 44 with
  | false =>
    rw [hx] at hsx
    by_cases b1 : p2 = []
    · subst b1
      cases b2 : datO p3 p1 p5 with
      | false =>
        rw [if_neg (fun h => absurd h.1 (by decide))]
        rw [if_neg (fun h => absurd h.2.1 (by decide))]
        refine ⟨(datC civ0 p3 p1 p5), ?_⟩
        refine pure_of_gen (r := .agg true [.p (.agg false (civP (datC civ0 p3 p1 p5))), .p (.int (-1))]) (tb' := ⟨[], [], 0⟩) ?_ (by simp [borF, all2])
        refine gen_of_aw (rs := [_, _]) [] [(3, [(19, .w []), (25, .w [])]), (7, [(9, .w []), (14, .w [])]), (9, [(19, .w []), (25, .w [])]), (11, [(13, .w []), (19, .w [])])] [] mixed Tryz.func151 rfl (by kernel_rfl) (by kernel_rfl) (by simp [Tryz.ntmps151]) rfl ?_
        simp
        refine pcall_of hsp (by simp) ?_
        simp
        refine call_of hsx ?_
        simp [hx]
        refine rcall_of [1] (dated199 civ0 p3 p1 p5 (by omega) (by omega) (by omega)) (by simp) (by simp) (by simp [sub1, civ0, civO]) (by simp [sub1]) ?_
        simp [hx, b2, civ0, Tryz.results151]
        all_goals first | exact ⟨[], by simp⟩ | skip
      | true =>
        cases b3 : timO p4 with
        | false =>
          rw [if_neg (fun h => absurd h.1 (by decide))]
          rw [if_neg (fun h => absurd h.2.2 (by decide))]
          refine ⟨(timC (datC civ0 p3 p1 p5) p4), ?_⟩
          refine pure_of_gen (r := .agg true [.p (.agg false (civP (timC (datC civ0 p3 p1 p5) p4))), .p (.int (-1))]) (tb' := ⟨[], [], 0⟩) ?_ (by simp [borF, all2])
          refine gen_of_aw (rs := [_, _]) [] [(3, [(19, .w []), (25, .w [])]), (7, [(9, .w []), (14, .w [])]), (9, [(19, .w []), (25, .w [])]), (11, [(13, .w []), (19, .w [])])] [] mixed Tryz.func151 rfl (by kernel_rfl) (by kernel_rfl) (by simp [Tryz.ntmps151]) rfl ?_
          simp
          refine pcall_of hsp (by simp) ?_
          simp
          refine call_of hsx ?_
          simp [hx]
          refine rcall_of [1] (dated199 civ0 p3 p1 p5 (by omega) (by omega) (by omega)) (by simp) (by simp) (by simp [sub1, civ0, civO]) (by simp [sub1]) ?_
          simp [hx, b2]
          refine rcall_of [1] (timed200 (datC civ0 p3 p1 p5) p4 (by omega)) (by simp) (by simp) (by simp [sub1, civ0, civO]) (by simp [sub1]) ?_
          simp [hx, b2, b3, civ0, Tryz.results151]
          all_goals first | exact ⟨[], by simp⟩ | skip
        | true =>
          rw [if_neg (fun h => absurd h.1 (by decide))]
          rw [if_pos ⟨rfl, rfl, rfl⟩]
          show PureC _ _ _ _
          rw [dat_tim (c1 := civ0) (c2 := civ0) (by simp only [datC_w, timC_w]) b2 b3]
          refine pure_of_gen (r := .agg true [.p (.agg false (civP (timC (datC civ0 p3 p1 p5) p4))), .p (.int 2)]) (tb' := ⟨[], [], 0⟩) ?_ (by simp [borF, all2])
          refine gen_of_aw (rs := [_, _]) [] [(3, [(19, .w []), (25, .w [])]), (7, [(9, .w []), (14, .w [])]), (9, [(19, .w []), (25, .w [])]), (11, [(13, .w []), (19, .w [])])] [] mixed Tryz.func151 rfl (by kernel_rfl) (by kernel_rfl) (by simp [Tryz.ntmps151]) rfl ?_
          simp
          refine pcall_of hsp (by simp) ?_
          simp
          refine call_of hsx ?_
          simp [hx]
          refine rcall_of [1] (dated199 civ0 p3 p1 p5 (by omega) (by omega) (by omega)) (by simp) (by simp) (by simp [sub1, civ0, civO]) (by simp [sub1]) ?_
          simp [hx, b2]
          refine rcall_of [1] (timed200 (datC civ0 p3 p1 p5) p4 (by omega)) (by simp) (by simp) (by simp [sub1, civ0, civO]) (by simp [sub1]) ?_
          simp [hx, b2, b3, civ0, Tryz.results151]
          all_goals first | exact ⟨[], by simp⟩ | skip
    · have b1' : (p2 == []) = false := by simpa using b1
      rw [if_neg (fun h => absurd h.1 (by decide))]
      rw [if_neg (fun h => b1 h.1)]
      refine ⟨civ0, ?_⟩
      refine pure_of_gen (r := .agg true [.p (.agg false (civP civ0)), .p (.int (-1))]) (tb' := ⟨[], [], 0⟩) ?_ (by simp [borF, all2])
      refine gen_of_aw (rs := [_, _]) [] [(3, [(19, .w []), (25, .w [])]), (7, [(9, .w []), (14, .w [])]), (9, [(19, .w []), (25, .w [])]), (11, [(13, .w []), (19, .w [])])] [] mixed Tryz.func151 rfl (by kernel_rfl) (by kernel_rfl) (by simp [Tryz.ntmps151]) rfl ?_
      simp
      refine pcall_of hsp (by simp) ?_
      simp
      refine call_of hsx ?_
      simp [hx, b1, b1', civ0, Tryz.results151]
      all_goals first | exact ⟨[], by simp⟩ | skip
  | true =>
    rw [hx] at hsx
    cases hd : datO p1 p2 p3 with
    | false =>
      by_cases b1 : p2 = []
      · subst b1
        cases b2 : datO p3 p1 p5 with
        | false =>
          rw [if_neg (fun h => absurd h.2.1 (by decide))]
          rw [if_neg (fun h => absurd h.2.1 (by decide))]
          refine ⟨(datC (datC civ0 p1 [] p3) p3 p1 p5), ?_⟩
          refine pure_of_gen (r := .agg true [.p (.agg false (civP (datC (datC civ0 p1 [] p3) p3 p1 p5))), .p (.int (-1))]) (tb' := ⟨[], [], 0⟩) ?_ (by simp [borF, all2])
          refine gen_of_aw (rs := [_, _]) [] [(3, [(19, .w []), (25, .w [])]), (7, [(9, .w []), (14, .w [])]), (9, [(19, .w []), (25, .w [])]), (11, [(13, .w []), (19, .w [])])] [] mixed Tryz.func151 rfl (by kernel_rfl) (by kernel_rfl) (by simp [Tryz.ntmps151]) rfl ?_
          simp
          refine pcall_of hsp (by simp) ?_
          simp
          refine call_of hsx ?_
          simp [hd]
          refine rcall_of [1] (dated199 civ0 p1 [] p3 (by omega) (by omega) (by omega)) (by simp) (by simp) (by simp [sub1, civ0, civO]) (by simp [sub1]) ?_
          simp [hd]
          refine rcall_of [1] (dated199 (datC civ0 p1 [] p3) p3 p1 p5 (by omega) (by omega) (by omega)) (by simp) (by simp) (by simp [sub1, civ0, civO]) (by simp [sub1]) ?_
          simp [hd, b2, civ0, Tryz.results151]
          all_goals first | exact ⟨[], by simp⟩ | skip
        | true =>
          cases b3 : timO p4 with
          | false =>
            rw [if_neg (fun h => absurd h.2.1 (by decide))]
            rw [if_neg (fun h => absurd h.2.2 (by decide))]
            refine ⟨(timC (datC (datC civ0 p1 [] p3) p3 p1 p5) p4), ?_⟩
            refine pure_of_gen (r := .agg true [.p (.agg false (civP (timC (datC (datC civ0 p1 [] p3) p3 p1 p5) p4))), .p (.int (-1))]) (tb' := ⟨[], [], 0⟩) ?_ (by simp [borF, all2])
            refine gen_of_aw (rs := [_, _]) [] [(3, [(19, .w []), (25, .w [])]), (7, [(9, .w []), (14, .w [])]), (9, [(19, .w []), (25, .w [])]), (11, [(13, .w []), (19, .w [])])] [] mixed Tryz.func151 rfl (by kernel_rfl) (by kernel_rfl) (by simp [Tryz.ntmps151]) rfl ?_
            simp
            refine pcall_of hsp (by simp) ?_
            simp
            refine call_of hsx ?_
            simp [hd]
            refine rcall_of [1] (dated199 civ0 p1 [] p3 (by omega) (by omega) (by omega)) (by simp) (by simp) (by simp [sub1, civ0, civO]) (by simp [sub1]) ?_
            simp [hd]
            refine rcall_of [1] (dated199 (datC civ0 p1 [] p3) p3 p1 p5 (by omega) (by omega) (by omega)) (by simp) (by simp) (by simp [sub1, civ0, civO]) (by simp [sub1]) ?_
            simp [hd, b2]
            refine rcall_of [1] (timed200 (datC (datC civ0 p1 [] p3) p3 p1 p5) p4 (by omega)) (by simp) (by simp) (by simp [sub1, civ0, civO]) (by simp [sub1]) ?_
            simp [hd, b2, b3, civ0, Tryz.results151]
            all_goals first | exact ⟨[], by simp⟩ | skip
          | true =>
            rw [if_neg (fun h => absurd h.2.1 (by decide))]
            rw [if_pos ⟨rfl, rfl, rfl⟩]
            show PureC _ _ _ _
            rw [dat_tim (c1 := civ0) (c2 := (datC civ0 p1 [] p3)) (by simp only [datC_w, timC_w]) b2 b3]
            refine pure_of_gen (r := .agg true [.p (.agg false (civP (timC (datC (datC civ0 p1 [] p3) p3 p1 p5) p4))), .p (.int 2)]) (tb' := ⟨[], [], 0⟩) ?_ (by simp [borF, all2])
            refine gen_of_aw (rs := [_, _]) [] [(3, [(19, .w []), (25, .w [])]), (7, [(9, .w []), (14, .w [])]), (9, [(19, .w []), (25, .w [])]), (11, [(13, .w []), (19, .w [])])] [] mixed Tryz.func151 rfl (by kernel_rfl) (by kernel_rfl) (by simp [Tryz.ntmps151]) rfl ?_
            simp
            refine pcall_of hsp (by simp) ?_
            simp
            refine call_of hsx ?_
            simp [hd]
            refine rcall_of [1] (dated199 civ0 p1 [] p3 (by omega) (by omega) (by omega)) (by simp) (by simp) (by simp [sub1, civ0, civO]) (by simp [sub1]) ?_
            simp [hd]
            refine rcall_of [1] (dated199 (datC civ0 p1 [] p3) p3 p1 p5 (by omega) (by omega) (by omega)) (by simp) (by simp) (by simp [sub1, civ0, civO]) (by simp [sub1]) ?_
            simp [hd, b2]
            refine rcall_of [1] (timed200 (datC (datC civ0 p1 [] p3) p3 p1 p5) p4 (by omega)) (by simp) (by simp) (by simp [sub1, civ0, civO]) (by simp [sub1]) ?_
            simp [hd, b2, b3, civ0, Tryz.results151]
            all_goals first | exact ⟨[], by simp⟩ | skip
      · have b1' : (p2 == []) = false := by simpa using b1
        rw [if_neg (fun h => absurd h.2.1 (by decide))]
        rw [if_neg (fun h => b1 h.1)]
        refine ⟨(datC civ0 p1 p2 p3), ?_⟩
        refine pure_of_gen (r := .agg true [.p (.agg false (civP (datC civ0 p1 p2 p3))), .p (.int (-1))]) (tb' := ⟨[], [], 0⟩) ?_ (by simp [borF, all2])
        refine gen_of_aw (rs := [_, _]) [] [(3, [(19, .w []), (25, .w [])]), (7, [(9, .w []), (14, .w [])]), (9, [(19, .w []), (25, .w [])]), (11, [(13, .w []), (19, .w [])])] [] mixed Tryz.func151 rfl (by kernel_rfl) (by kernel_rfl) (by simp [Tryz.ntmps151]) rfl ?_
        simp
        refine pcall_of hsp (by simp) ?_
        simp
        refine call_of hsx ?_
        simp [hd, b1, b1', civ0, Tryz.results151]
        refine rcall_of [1] (dated199 civ0 p1 p2 p3 (by omega) (by omega) (by omega)) (by simp) (by simp) (by simp [sub1, civ0, civO]) (by simp [sub1]) ?_
        simp [hd, b1, b1', civ0, Tryz.results151]
        all_goals first | exact ⟨[], by simp⟩ | skip
    | true =>
      cases ht : timO p4 with
      | false =>
        by_cases b1 : p2 = []
        · subst b1
          cases b2 : datO p3 p1 p5 with
          | false =>
            rw [if_neg (fun h => absurd h.2.2 (by decide))]
            rw [if_neg (fun h => absurd h.2.1 (by decide))]
            refine ⟨(datC (timC (datC civ0 p1 [] p3) p4) p3 p1 p5), ?_⟩
            refine pure_of_gen (r := .agg true [.p (.agg false (civP (datC (timC (datC civ0 p1 [] p3) p4) p3 p1 p5))), .p (.int (-1))]) (tb' := ⟨[], [], 0⟩) ?_ (by simp [borF, all2])
            refine gen_of_aw (rs := [_, _]) [] [(3, [(19, .w []), (25, .w [])]), (7, [(9, .w []), (14, .w [])]), (9, [(19, .w []), (25, .w [])]), (11, [(13, .w []), (19, .w [])])] [] mixed Tryz.func151 rfl (by kernel_rfl) (by kernel_rfl) (by simp [Tryz.ntmps151]) rfl ?_
            simp
            refine pcall_of hsp (by simp) ?_
            simp
            refine call_of hsx ?_
            simp [hd, ht]
            refine rcall_of [1] (dated199 civ0 p1 [] p3 (by omega) (by omega) (by omega)) (by simp) (by simp) (by simp [sub1, civ0, civO]) (by simp [sub1]) ?_
            simp [hd, ht]
            refine rcall_of [1] (timed200 (datC civ0 p1 [] p3) p4 (by omega)) (by simp) (by simp) (by simp [sub1, civ0, civO]) (by simp [sub1]) ?_
            simp [hd, ht]
            refine rcall_of [1] (dated199 (timC (datC civ0 p1 [] p3) p4) p3 p1 p5 (by omega) (by omega) (by omega)) (by simp) (by simp) (by simp [sub1, civ0, civO]) (by simp [sub1]) ?_
            simp [hd, ht, b2, civ0, Tryz.results151]
            all_goals first | exact ⟨[], by simp⟩ | skip
          | true =>
            cases b3 : timO p4 with
            | false =>
              rw [if_neg (fun h => absurd h.2.2 (by decide))]
              rw [if_neg (fun h => absurd h.2.2 (by decide))]
              refine ⟨(timC (datC (timC (datC civ0 p1 [] p3) p4) p3 p1 p5) p4), ?_⟩
              refine pure_of_gen (r := .agg true [.p (.agg false (civP (timC (datC (timC (datC civ0 p1 [] p3) p4) p3 p1 p5) p4))), .p (.int (-1))]) (tb' := ⟨[], [], 0⟩) ?_ (by simp [borF, all2])
              refine gen_of_aw (rs := [_, _]) [] [(3, [(19, .w []), (25, .w [])]), (7, [(9, .w []), (14, .w [])]), (9, [(19, .w []), (25, .w [])]), (11, [(13, .w []), (19, .w [])])] [] mixed Tryz.func151 rfl (by kernel_rfl) (by kernel_rfl) (by simp [Tryz.ntmps151]) rfl ?_
              simp
              refine pcall_of hsp (by simp) ?_
              simp
              refine call_of hsx ?_
              simp [hd, ht]
              refine rcall_of [1] (dated199 civ0 p1 [] p3 (by omega) (by omega) (by omega)) (by simp) (by simp) (by simp [sub1, civ0, civO]) (by simp [sub1]) ?_
              simp [hd, ht]
              refine rcall_of [1] (timed200 (datC civ0 p1 [] p3) p4 (by omega)) (by simp) (by simp) (by simp [sub1, civ0, civO]) (by simp [sub1]) ?_
              simp [hd, ht]
              refine rcall_of [1] (dated199 (timC (datC civ0 p1 [] p3) p4) p3 p1 p5 (by omega) (by omega) (by omega)) (by simp) (by simp) (by simp [sub1, civ0, civO]) (by simp [sub1]) ?_
              simp [hd, ht, b2]
              refine rcall_of [1] (timed200 (datC (timC (datC civ0 p1 [] p3) p4) p3 p1 p5) p4 (by omega)) (by simp) (by simp) (by simp [sub1, civ0, civO]) (by simp [sub1]) ?_
              simp [hd, ht, b2, b3, civ0, Tryz.results151]
              all_goals first | exact ⟨[], by simp⟩ | skip
            | true =>
              rw [ht] at b3; cases b3
        · have b1' : (p2 == []) = false := by simpa using b1
          rw [if_neg (fun h => absurd h.2.2 (by decide))]
          rw [if_neg (fun h => b1 h.1)]
          refine ⟨(timC (datC civ0 p1 p2 p3) p4), ?_⟩
          refine pure_of_gen (r := .agg true [.p (.agg false (civP (timC (datC civ0 p1 p2 p3) p4))), .p (.int (-1))]) (tb' := ⟨[], [], 0⟩) ?_ (by simp [borF, all2])
          refine gen_of_aw (rs := [_, _]) [] [(3, [(19, .w []), (25, .w [])]), (7, [(9, .w []), (14, .w [])]), (9, [(19, .w []), (25, .w [])]), (11, [(13, .w []), (19, .w [])])] [] mixed Tryz.func151 rfl (by kernel_rfl) (by kernel_rfl) (by simp [Tryz.ntmps151]) rfl ?_
          simp
          refine pcall_of hsp (by simp) ?_
          simp
          refine call_of hsx ?_
          simp [hd, ht, b1, b1', civ0, Tryz.results151]
          refine rcall_of [1] (dated199 civ0 p1 p2 p3 (by omega) (by omega) (by omega)) (by simp) (by simp) (by simp [sub1, civ0, civO]) (by simp [sub1]) ?_
          simp [hd, ht, b1, b1', civ0, Tryz.results151]
          refine rcall_of [1] (timed200 (datC civ0 p1 p2 p3) p4 (by omega)) (by simp) (by simp) (by simp [sub1, civ0, civO]) (by simp [sub1]) ?_
          simp [hd, ht, b1, b1', civ0, Tryz.results151]
          all_goals first | exact ⟨[], by simp⟩ | skip
      | true =>
        rw [if_pos ⟨rfl, rfl, rfl⟩]
        show PureC _ _ _ _
        refine pure_of_gen (r := .agg true [.p (.agg false (civP (timC (datC civ0 p1 p2 p3) p4))), .p (.int 0)]) (tb' := ⟨[], [], 0⟩) ?_ (by simp [borF, all2])
        refine gen_of_aw (rs := [_, _]) [] [(3, [(19, .w []), (25, .w [])]), (7, [(9, .w []), (14, .w [])]), (9, [(19, .w []), (25, .w [])]), (11, [(13, .w []), (19, .w [])])] [] mixed Tryz.func151 rfl (by kernel_rfl) (by kernel_rfl) (by simp [Tryz.ntmps151]) rfl ?_
        simp
        refine pcall_of hsp (by simp) ?_
        simp
        refine call_of hsx ?_
        simp [hd, ht, civ0, Tryz.results151]
        refine rcall_of [1] (dated199 civ0 p1 p2 p3 (by omega) (by omega) (by omega)) (by simp) (by simp) (by simp [sub1, civ0, civO]) (by simp [sub1]) ?_
        simp [hd, ht, civ0, Tryz.results151]
        refine rcall_of [1] (timed200 (datC civ0 p1 p2 p3) p4 (by omega)) (by simp) (by simp) (by simp [sub1, civ0, civO]) (by simp [sub1]) ?_
        simp [hd, ht, civ0, Tryz.results151]
        all_goals first | exact ⟨[], by simp⟩ | skip
end Go.Av

/-! part Z103 -/
namespace Go.Av
open Go.Proofs Go.RowKit
set_option maxRecDepth 100000
theorem splB_cnt (c : UInt8) : ∀ (n : Nat) (l : List UInt8), l.count c = n → (splB c n l).length = n + 1
  | 0, l, _ => rfl
  | n + 1, l, h => by
    have hm : c ∈ l := List.count_pos_iff.1 (by omega)
    obtain ⟨A, B, e, hA⟩ : ∃ A B, l = A ++ c :: B ∧ c ∉ A := by
      clear h
      induction l with
      | nil => cases hm
      | cons x l ih =>
        by_cases hx : x = c
        · subst hx; exact ⟨[], l, rfl, by simp⟩
        · rcases List.mem_cons.1 hm with h | h
          · exact absurd h.symm hx
          · obtain ⟨A, B, e, hA⟩ := ih h
            exact ⟨x :: A, B, by rw [e]; rfl, by simp [hA, Ne.symm hx]⟩
    have hi : ixB l c = A.length := ixB_eq (k := A.length) (by rw [e]; simp) (fun x hx h => by
      rw [e, List.take_left' rfl] at hx; subst h; exact hA hx) (by simp [e])
    unfold splB
    rw [if_neg (by rw [hi]; omega), List.length_cons, hi]
    have hd : l.drop ((A.length : Int).toNat + 1) = B := by rw [e]; simp
    rw [hd, splB_cnt c n B (by rw [e, List.count_append, List.count_eq_zero.2 hA] at h; simp at h; omega)]
set_option maxHeartbeats 4000000 in
theorem parts_five (s : List UInt8) (hs : s.length ≤ 1000000) (p0 p1 p2 p3 p4 : List UInt8) (hL : splB 32 (s.count 32) s = [p0, p1, p2, p3, p4]) : PRes s (partsL [p0, p1, p2, p3, p4]) := by
  have hsp := split51 s 32 hs
  have hle := splB_le 32 (s.count 32) s
  rw [hL] at hsp hle
  have l0 := hle p0 (by simp)
  have l1 := hle p1 (by simp)
  have l2 := hle p2 (by simp)
  have l3 := hle p3 (by simp)
  have l4 := hle p4 (by simp)
  have e : partsL [p0, p1, p2, p3, p4] = if datO p2 p1 p4 = true ∧ timO p3 = true then some (timC (datC civ0 p2 p1 p4) p3, 2) else none := rfl
  rw [e]
  clear e
  cases hd : datO p2 p1 p4 with
  | false =>
    rw [if_neg (fun h => absurd h.1 (by decide))]
    refine ⟨(datC civ0 p2 p1 p4), ?_⟩
    refine pure_of_gen (r := .agg true [.p (.agg false (civP (datC civ0 p2 p1 p4))), .p (.int (-1))]) (tb' := ⟨[], [], 0⟩) ?_ (by simp [borF, all2])
    refine gen_of_aw (rs := [_, _]) [] [(3, [(19, .w []), (25, .w [])]), (7, [(9, .w []), (14, .w [])]), (9, [(19, .w []), (25, .w [])]), (11, [(13, .w []), (19, .w [])])] [] mixed Tryz.func151 rfl (by kernel_rfl) (by kernel_rfl) (by simp [Tryz.ntmps151]) rfl ?_
    simp
    refine pcall_of hsp (by simp) ?_
    simp
    refine rcall_of [1] (dated199 civ0 p2 p1 p4 (by omega) (by omega) (by omega)) (by simp) (by simp) (by simp [sub1, civ0, civO]) (by simp [sub1]) ?_
    simp [hd, civ0, Tryz.results151]
    all_goals first | exact ⟨[], by simp⟩ | skip
  | true =>
    cases ht : timO p3 with
    | false =>
      rw [if_neg (fun h => absurd h.2 (by decide))]
      refine ⟨(timC (datC civ0 p2 p1 p4) p3), ?_⟩
      refine pure_of_gen (r := .agg true [.p (.agg false (civP (timC (datC civ0 p2 p1 p4) p3))), .p (.int (-1))]) (tb' := ⟨[], [], 0⟩) ?_ (by simp [borF, all2])
      refine gen_of_aw (rs := [_, _]) [] [(3, [(19, .w []), (25, .w [])]), (7, [(9, .w []), (14, .w [])]), (9, [(19, .w []), (25, .w [])]), (11, [(13, .w []), (19, .w [])])] [] mixed Tryz.func151 rfl (by kernel_rfl) (by kernel_rfl) (by simp [Tryz.ntmps151]) rfl ?_
      simp
      refine pcall_of hsp (by simp) ?_
      simp
      refine rcall_of [1] (dated199 civ0 p2 p1 p4 (by omega) (by omega) (by omega)) (by simp) (by simp) (by simp [sub1, civ0, civO]) (by simp [sub1]) ?_
      simp [hd]
      refine rcall_of [1] (timed200 (datC civ0 p2 p1 p4) p3 (by omega)) (by simp) (by simp) (by simp [sub1, civ0, civO]) (by simp [sub1]) ?_
      simp [hd, ht, civ0, Tryz.results151]
      all_goals first | exact ⟨[], by simp⟩ | skip
    | true =>
      rw [if_pos ⟨rfl, rfl⟩]
      show PureC _ _ _ _
      refine pure_of_gen (r := .agg true [.p (.agg false (civP (timC (datC civ0 p2 p1 p4) p3))), .p (.int 2)]) (tb' := ⟨[], [], 0⟩) ?_ (by simp [borF, all2])
      refine gen_of_aw (rs := [_, _]) [] [(3, [(19, .w []), (25, .w [])]), (7, [(9, .w []), (14, .w [])]), (9, [(19, .w []), (25, .w [])]), (11, [(13, .w []), (19, .w [])])] [] mixed Tryz.func151 rfl (by kernel_rfl) (by kernel_rfl) (by simp [Tryz.ntmps151]) rfl ?_
      simp
      refine pcall_of hsp (by simp) ?_
      simp
      refine rcall_of [1] (dated199 civ0 p2 p1 p4 (by omega) (by omega) (by omega)) (by simp) (by simp) (by simp [sub1, civ0, civO]) (by simp [sub1]) ?_
      simp [hd]
      refine rcall_of [1] (timed200 (datC civ0 p2 p1 p4) p3 (by omega)) (by simp) (by simp) (by simp [sub1, civ0, civO]) (by simp [sub1]) ?_
      simp [hd, ht, civ0, Tryz.results151]
      all_goals first | exact ⟨[], by simp⟩ | skip
set_option maxHeartbeats 4000000 in
theorem parts_four (s : List UInt8) (hs : s.length ≤ 1000000) (p0 p1 p2 p3 : List UInt8) (hL : splB 32 (s.count 32) s = [p0, p1, p2, p3]) : PRes s (partsL [p0, p1, p2, p3]) := by
  have hsp := split51 s 32 hs
  have hle := splB_le 32 (s.count 32) s
  rw [hL] at hsp hle
  have l0 := hle p0 (by simp)
  have l1 := hle p1 (by simp)
  have l2 := hle p2 (by simp)
  have l3 := hle p3 (by simp)
  have e : partsL [p0, p1, p2, p3] = if p1.count 45 = 2 then match splB 45 2 p1 with
      | [q0, q1, q2] => if datO q0 q1 q2 = true ∧ timO p2 = true then some (timC (datC civ0 q0 q1 q2) p2, (1 : Int)) else none
      | _ => none
    else none := rfl
  rw [e]
  clear e
  have hct := count112 p1 45
  by_cases hc : p1.count 45 = 2
  · have hs2 := split51 p1 45 (by omega)
    have hle2 := splB_le 45 (p1.count 45) p1
    have h3 := splB_cnt 45 _ p1 hc
    rw [if_pos hc]
    rw [hc] at hs2 hle2 hct
    obtain ⟨q0, q1, q2, hq⟩ := three h3
    rw [hq] at hs2 hle2 ⊢
    have m0 := hle2 q0 (by simp)
    have m1 := hle2 q1 (by simp)
    have m2 := hle2 q2 (by simp)
    simp only
    cases hd : datO q0 q1 q2 with
    | false =>
      rw [if_neg (fun h => absurd h.1 (by decide))]
      refine ⟨(datC civ0 q0 q1 q2), ?_⟩
      refine pure_of_gen (r := .agg true [.p (.agg false (civP (datC civ0 q0 q1 q2))), .p (.int (-1))]) (tb' := ⟨[], [], 0⟩) ?_ (by simp [borF, all2])
      refine gen_of_aw (rs := [_, _]) [] [(3, [(19, .w []), (25, .w [])]), (7, [(9, .w []), (14, .w [])]), (9, [(19, .w []), (25, .w [])]), (11, [(13, .w []), (19, .w [])])] [] mixed Tryz.func151 rfl (by kernel_rfl) (by kernel_rfl) (by simp [Tryz.ntmps151]) rfl ?_
      simp
      refine pcall_of hsp (by simp) ?_
      simp
      refine pcall_of hct (by simp) ?_
      simp
      refine pcall_of hs2 (by simp) ?_
      simp
      refine rcall_of [1] (dated199 civ0 q0 q1 q2 (by omega) (by omega) (by omega)) (by simp) (by simp) (by simp [sub1, civ0, civO]) (by simp [sub1]) ?_
      simp [hd, civ0, Tryz.results151]
      all_goals first | exact ⟨[], by simp⟩ | skip
    | true =>
      cases ht : timO p2 with
      | false =>
        rw [if_neg (fun h => absurd h.2 (by decide))]
        refine ⟨(timC (datC civ0 q0 q1 q2) p2), ?_⟩
        refine pure_of_gen (r := .agg true [.p (.agg false (civP (timC (datC civ0 q0 q1 q2) p2))), .p (.int (-1))]) (tb' := ⟨[], [], 0⟩) ?_ (by simp [borF, all2])
        refine gen_of_aw (rs := [_, _]) [] [(3, [(19, .w []), (25, .w [])]), (7, [(9, .w []), (14, .w [])]), (9, [(19, .w []), (25, .w [])]), (11, [(13, .w []), (19, .w [])])] [] mixed Tryz.func151 rfl (by kernel_rfl) (by kernel_rfl) (by simp [Tryz.ntmps151]) rfl ?_
        simp
        refine pcall_of hsp (by simp) ?_
        simp
        refine pcall_of hct (by simp) ?_
        simp
        refine pcall_of hs2 (by simp) ?_
        simp
        refine rcall_of [1] (dated199 civ0 q0 q1 q2 (by omega) (by omega) (by omega)) (by simp) (by simp) (by simp [sub1, civ0, civO]) (by simp [sub1]) ?_
        simp [hd]
        refine rcall_of [1] (timed200 (datC civ0 q0 q1 q2) p2 (by omega)) (by simp) (by simp) (by simp [sub1, civ0, civO]) (by simp [sub1]) ?_
        simp [hd, ht, civ0, Tryz.results151]
        all_goals first | exact ⟨[], by simp⟩ | skip
      | true =>
        rw [if_pos ⟨rfl, rfl⟩]
        show PureC _ _ _ _
        refine pure_of_gen (r := .agg true [.p (.agg false (civP (timC (datC civ0 q0 q1 q2) p2))), .p (.int 1)]) (tb' := ⟨[], [], 0⟩) ?_ (by simp [borF, all2])
        refine gen_of_aw (rs := [_, _]) [] [(3, [(19, .w []), (25, .w [])]), (7, [(9, .w []), (14, .w [])]), (9, [(19, .w []), (25, .w [])]), (11, [(13, .w []), (19, .w [])])] [] mixed Tryz.func151 rfl (by kernel_rfl) (by kernel_rfl) (by simp [Tryz.ntmps151]) rfl ?_
        simp
        refine pcall_of hsp (by simp) ?_
        simp
        refine pcall_of hct (by simp) ?_
        simp
        refine pcall_of hs2 (by simp) ?_
        simp
        refine rcall_of [1] (dated199 civ0 q0 q1 q2 (by omega) (by omega) (by omega)) (by simp) (by simp) (by simp [sub1, civ0, civO]) (by simp [sub1]) ?_
        simp [hd]
        refine rcall_of [1] (timed200 (datC civ0 q0 q1 q2) p2 (by omega)) (by simp) (by simp) (by simp [sub1, civ0, civO]) (by simp [sub1]) ?_
        simp [hd, ht, civ0, Tryz.results151]
        all_goals first | exact ⟨[], by simp⟩ | skip
  · rw [if_neg hc]
    have hc' : ((p1.count 45 : Int) == 2) = false := by simp; omega
    refine ⟨civ0, ?_⟩
    refine pure_of_gen (r := .agg true [.p (.agg false (civP civ0)), .p (.int (-1))]) (tb' := ⟨[], [], 0⟩) ?_ (by simp [borF, all2])
    refine gen_of_aw (rs := [_, _]) [] [(3, [(19, .w []), (25, .w [])]), (7, [(9, .w []), (14, .w [])]), (9, [(19, .w []), (25, .w [])]), (11, [(13, .w []), (19, .w [])])] [] mixed Tryz.func151 rfl (by kernel_rfl) (by kernel_rfl) (by simp [Tryz.ntmps151]) rfl ?_
    simp
    refine pcall_of hsp (by simp) ?_
    simp
    refine pcall_of hct (by simp) ?_
    simp [hc', hc, civ0, Tryz.results151]
    all_goals first | exact ⟨[], by simp⟩ | skip
theorem parts151 (s : List UInt8) (hs : s.length ≤ 1000000) : PRes s (partsB s) := by
  have hsp := split51 s 32 hs
  unfold partsB
  by_cases h6 : (splB 32 (s.count 32) s).length = 6
  · obtain ⟨a, b, c, d, e, f, h⟩ := six h6
    rw [h]; exact parts_six s hs a b c d e f h
  by_cases h5 : (splB 32 (s.count 32) s).length = 5
  · obtain ⟨a, b, c, d, e, h⟩ := five h5
    rw [h]; exact parts_five s hs a b c d e h
  by_cases h4 : (splB 32 (s.count 32) s).length = 4
  · obtain ⟨a, b, c, d, h⟩ := four h4
    rw [h]; exact parts_four s hs a b c d h
  generalize splB 32 (s.count 32) s = L at *
  have hn : partsL L = none := by
    match L, h4, h5, h6 with
    | [], _, _, _ => rfl
    | [_], _, _, _ => rfl
    | [_, _], _, _, _ => rfl
    | [_, _, _], _, _, _ => rfl
    | [_, _, _, _], h, _, _ => exact absurd rfl h
    | [_, _, _, _, _], _, h, _ => exact absurd rfl h
    | [_, _, _, _, _, _], _, _, h => exact absurd rfl h
    | _ :: _ :: _ :: _ :: _ :: _ :: _ :: _, _, _, _ => rfl
  rw [hn]
  have c4 : ((L.length : Int) == 4) = false := by simp; omega
  have c5 : ((L.length : Int) == 5) = false := by simp; omega
  have c6 : ((L.length : Int) == 6) = false := by simp; omega
  refine ⟨civ0, ?_⟩
  refine pure_of_gen (r := .agg true [.p (.agg false (civP civ0)), .p (.int (-1))]) (tb' := ⟨[], [], 0⟩) ?_ (by simp [borF, all2])
  refine gen_of_aw (rs := [_, _]) [] [(3, [(19, .w []), (25, .w [])]), (7, [(9, .w []), (14, .w [])]), (9, [(19, .w []), (25, .w [])]), (11, [(13, .w []), (19, .w [])])] [] mixed Tryz.func151 rfl (by kernel_rfl) (by kernel_rfl) (by simp [Tryz.ntmps151]) rfl ?_
  simp
  refine pcall_of hsp (by simp) ?_
  simp [h4, h5, h6, c4, c5, c6, civ0, Tryz.results151]
  all_goals first | exact ⟨[], by simp⟩ | skip
end Go.Av

/-! part Z104 -/
namespace Go.Av
open Go.Proofs Go.RowKit
set_option maxRecDepth 100000
theorem dig_two {y : List UInt8} (h : y.length = 2) : digB y ≤ 99 := by
  match y, h with
  | [a, b], _ =>
    have key : (numB 9999 [a, b]).1 ≤ 99 := by
      unfold numB
      by_cases hh : [a, b] = [] ∨ [a, b].all dig = false
      · rw [if_pos hh]; simp
      · rw [if_neg hh]
        have hd : [a, b].all dig = true := by
          cases h : [a, b].all dig with
          | true => rfl
          | false => exact absurd (Or.inr h) hh
        simp only [List.all_cons, List.all_nil, Bool.and_true, Bool.and_eq_true, dig, decide_eq_true_eq] at hd
        by_cases h2 : (numF 9999 [a, b]).2 = true
        · rw [if_pos h2]; simp
        · rw [if_neg h2]
          show ((numF 9999 [a, b]).1 : Int) ≤ 99
          simp only [numF, List.foldl_cons, List.foldl_nil, numS]
          by_cases e1 : (false = true ∨ (9999 - (a.toNat - 48)) / 10 < 0)
          · rcases e1 with e1 | e1
            · cases e1
            · omega
          · rw [if_neg e1]
            by_cases e2 : ((0 * 10 + (a.toNat - 48), false).2 = true ∨ (9999 - (b.toNat - 48)) / 10 < (0 * 10 + (a.toNat - 48), false).1)
            · rw [if_pos e2]; simp only; omega
            · rw [if_neg e2]; simp only; omega
    unfold digB
    split <;> omega
theorem yr_b2 (y : List UInt8) : yrB y ≤ 9999 := by
  have := dig_b y
  unfold yrB; split
  · rename_i h
    have := dig_two h.1
    split <;> omega
  · omega
theorem dat_ok {c0 : Civ} {d m y t : List UInt8} (hd : datO d m y = true) (ht : timO t = true) : COk (timC (datC c0 d m y) t) := by
  unfold datO at hd
  unfold timO at ht
  unfold timC datC
  cases h1 : monIx m with
  | none => rw [h1] at hd; cases hd
  | some k =>
    cases h2 : timX t with
    | none => rw [h2] at ht; cases ht
    | some q =>
      rw [h1] at hd; rw [h2] at ht
      simp only [Bool.and_eq_true, decide_eq_true_eq] at hd ht
      have hy := yr_b2 y
      have hk : k < 12 := by
        unfold monIx at h1
        split at h1
        · rename_i hm
          injection h1 with h1
          subst h1
          exact List.idxOf_lt_length_of_mem hm
        · cases h1
      refine ⟨hd.1.1, hy, ⟨by simp only; omega, by simp only; omega⟩, ⟨hd.1.2, hd.2⟩, ⟨ht.1.1.1.1.1, ht.1.1.1.1.2⟩, ⟨ht.1.1.1.2, ht.1.1.2⟩, ht.1.2, ht.2⟩
theorem partsL_ok {L : List (List UInt8)} {c : Civ} {k : Int} (h : partsL L = some (c, k)) : COk c ∧ (k = 0 ∨ k = 1 ∨ k = 2) := by
  unfold partsL at h
  split at h
  · split at h
    · rename_i hc; injection h with h; injection h with h1 h2; subst h1; subst h2
      exact ⟨dat_ok hc.2.1 hc.2.2, .inl rfl⟩
    · split at h
      · rename_i hc; injection h with h; injection h with h1 h2; subst h1; subst h2
        exact ⟨dat_ok hc.2.1 hc.2.2, .inr (.inr rfl)⟩
      · cases h
  · split at h
    · split at h
      · split at h
        · rename_i hc; injection h with h; injection h with h1 h2; subst h1; subst h2
          exact ⟨dat_ok hc.1 hc.2, .inr (.inl rfl)⟩
        · cases h
      · cases h
    · cases h
  · split at h
    · rename_i hc; injection h with h; injection h with h1 h2; subst h1; subst h2
      exact ⟨dat_ok hc.1 hc.2, .inr (.inr rfl)⟩
    · cases h
  · cases h
def fmK (k : Int) (c : Civ) : List UInt8 := if k = 0 then fm0 c else if k = 1 then fm1 c else fm2 c
def wkd (c : Civ) : Civ := { c with w := dayB c % 7 }
def parseD (s : List UInt8) : Int × Int := match partsB s with
  | none => (0, 10)
  | some q => if fmK q.2 (wkd q.1) = s then (joinB q.1, 0) else (0, 10)
theorem parse_b (s : List UInt8) : 0 ≤ (parseD s).1 ∧ (parseD s).1 ≤ 253402300799 := by
  unfold parseD
  cases h : partsB s with
  | none => simp
  | some q =>
    have := join_b (partsL_ok h).1
    simp only
    split
    · exact this
    · simp
theorem fok {c : Civ} (h : COk c) : FOk (wkd c) := by
  obtain ⟨g1, g2, h1, h2, h3, h4, h5⟩ := h
  have := len_b c.y c.mo
  exact ⟨⟨by show 0 ≤ c.y; omega, g2⟩, h1, ⟨by show 0 ≤ c.d; omega, by show c.d ≤ 31; omega⟩, h3, h4, h5, ⟨by show 0 ≤ dayB c % 7; omega, by show dayB c % 7 ≤ 6; omega⟩⟩
theorem arrEl159 : arrEl Tryz.prog 159 = some (3, 1, false) := by kernel_rfl
set_option maxHeartbeats 2000000 in
theorem Parse117 (s : List UInt8) (hs : s.length ≤ 1000000) : PureC Tryz.prog 117 [.str s] (.tp [.int (parseD s).1, .int (parseD s).2]) := by
  have hp := parts151 s hs
  unfold parseD
  cases h : partsB s with
  | none =>
    rw [h] at hp
    obtain ⟨c, hp⟩ := hp
    refine pure_of_aw (ys := [_, _]) [] [] [] mixed Tryz.func117 rfl (by kernel_rfl) (by kernel_rfl) (by simp [Tryz.ntmps117]) rfl ?_
    simp
    refine pcall_of hp (by simp) ?_
    simp [Tryz.results117]
  | some q =>
    obtain ⟨c, k⟩ := q
    rw [h] at hp
    have hp : PureC Tryz.prog 151 [.str s] (.tp [.agg false (civP c), .int k]) := hp
    obtain ⟨hc, hk⟩ := partsL_ok h
    have hj := joined152 c hc
    have hsp := split153 (joinB c) (wkd c) (cal_of hc)
    have hf := forms154 (wkd c) (fok hc)
    simp only
    generalize wkd c = C at *
    rcases hk with rfl | rfl | rfl
    · have hk : fmK 0 C = fm0 C := rfl
      rw [hk]
      by_cases hq : fm0 C = s
      · have hq' : (fm0 C != s) = false := by simpa using hq
        rw [if_pos hq]
        refine pure_of_aw (ys := [_, _]) [] [] [] mixed Tryz.func117 rfl (by kernel_rfl) (by kernel_rfl) (by simp [Tryz.ntmps117]) rfl ?_
        simp
        refine pcall_of hp (by simp) ?_
        simp
        refine pcall_of hj (by simp) ?_
        simp
        refine pcall_of hsp (by simp) ?_
        simp
        refine pcall_of hf (by simp) ?_
        simp [arrEl159, hq', Tryz.results117]
      · have hq' : (fm0 C != s) = true := by simpa using hq
        rw [if_neg hq]
        refine pure_of_aw (ys := [_, _]) [] [] [] mixed Tryz.func117 rfl (by kernel_rfl) (by kernel_rfl) (by simp [Tryz.ntmps117]) rfl ?_
        simp
        refine pcall_of hp (by simp) ?_
        simp
        refine pcall_of hj (by simp) ?_
        simp
        refine pcall_of hsp (by simp) ?_
        simp
        refine pcall_of hf (by simp) ?_
        simp [arrEl159, hq', Tryz.results117]
    · have hk : fmK 1 C = fm1 C := rfl
      rw [hk]
      by_cases hq : fm1 C = s
      · have hq' : (fm1 C != s) = false := by simpa using hq
        rw [if_pos hq]
        refine pure_of_aw (ys := [_, _]) [] [] [] mixed Tryz.func117 rfl (by kernel_rfl) (by kernel_rfl) (by simp [Tryz.ntmps117]) rfl ?_
        simp
        refine pcall_of hp (by simp) ?_
        simp
        refine pcall_of hj (by simp) ?_
        simp
        refine pcall_of hsp (by simp) ?_
        simp
        refine pcall_of hf (by simp) ?_
        simp [arrEl159, hq', Tryz.results117]
      · have hq' : (fm1 C != s) = true := by simpa using hq
        rw [if_neg hq]
        refine pure_of_aw (ys := [_, _]) [] [] [] mixed Tryz.func117 rfl (by kernel_rfl) (by kernel_rfl) (by simp [Tryz.ntmps117]) rfl ?_
        simp
        refine pcall_of hp (by simp) ?_
        simp
        refine pcall_of hj (by simp) ?_
        simp
        refine pcall_of hsp (by simp) ?_
        simp
        refine pcall_of hf (by simp) ?_
        simp [arrEl159, hq', Tryz.results117]
    · have hk : fmK 2 C = fm2 C := rfl
      rw [hk]
      by_cases hq : fm2 C = s
      · have hq' : (fm2 C != s) = false := by simpa using hq
        rw [if_pos hq]
        refine pure_of_aw (ys := [_, _]) [] [] [] mixed Tryz.func117 rfl (by kernel_rfl) (by kernel_rfl) (by simp [Tryz.ntmps117]) rfl ?_
        simp
        refine pcall_of hp (by simp) ?_
        simp
        refine pcall_of hj (by simp) ?_
        simp
        refine pcall_of hsp (by simp) ?_
        simp
        refine pcall_of hf (by simp) ?_
        simp [arrEl159, hq', Tryz.results117]
      · have hq' : (fm2 C != s) = true := by simpa using hq
        rw [if_neg hq]
        refine pure_of_aw (ys := [_, _]) [] [] [] mixed Tryz.func117 rfl (by kernel_rfl) (by kernel_rfl) (by simp [Tryz.ntmps117]) rfl ?_
        simp
        refine pcall_of hp (by simp) ?_
        simp
        refine pcall_of hj (by simp) ?_
        simp
        refine pcall_of hsp (by simp) ?_
        simp
        refine pcall_of hf (by simp) ?_
        simp [arrEl159, hq', Tryz.results117]
end Go.Av

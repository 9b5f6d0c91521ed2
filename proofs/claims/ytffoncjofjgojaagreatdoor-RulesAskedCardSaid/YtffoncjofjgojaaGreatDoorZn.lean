/- By which fields is asked, which answers confirm, whether nothing has changed; RulesAsked computes true. -/
import Derived.Test.YtffoncjofjgojaaGreatDoorZm
set_option linter.all false
/-! part Z135 -/
namespace Go.Av
open Go.Proofs
set_option maxRecDepth 100000
theorem prefix143_2 (l : List UInt8) (c d : UInt8) : PureC Tryz.prog 143 [.str l, .str [c, d]] (.bool (decide (l.take 2 = [c, d]))) := by
  refine pure_of_aw (ys := [_]) [] [] [] mixed Tryz.func143 rfl (by kernel_rfl) (by kernel_rfl) (by simp [Tryz.ntmps143]) rfl ?_
  match l with
  | [] => simp [Tryz.results143]
  | [a] => simp [Tryz.results143]
  | a :: b :: l =>
    have dd : (2 : Int) ≤ (l.length : Int) + 1 + 1 := by omega
    simp [dd, Tryz.results143]
    by_cases e1 : a = c <;> by_cases e2 : b = d <;> simp [e1, e2]
def bareB (s : List UInt8) : List UInt8 := if s.take 2 = [87, 47] then s.drop 2 else s
theorem trimp150 (s : List UInt8) : PureC Tryz.prog 150 [.str s, .str [87, 47]] (.str (bareB s)) := by
  refine pure_of_aw (ys := [_]) [] [] [] mixed Tryz.func150 rfl (by kernel_rfl) (by kernel_rfl) (by simp [Tryz.ntmps150]) rfl ?_
  simp
  refine pcall_of (prefix143_2 s 87 47) (by simp) ?_
  unfold bareB
  by_cases h : s.take 2 = [87, 47]
  · have hl : 2 ≤ s.length := by
      have := congrArg List.length h
      simp at this; omega
    simp [h, hl, Tryz.results150]
  · simp [h, Tryz.results150]
theorem trimp116 (s : List UInt8) : PureC Tryz.prog 116 [.str s, .str [87, 47]] (.str (bareB s)) := by
  refine pure_of_aw (ys := [_]) [] [] [] mixed Tryz.func116 rfl (by kernel_rfl) (by kernel_rfl) (by simp [Tryz.ntmps116]) rfl ?_
  simp
  refine pcall_of (trimp150 s) (by simp) ?_
  simp [Tryz.results116]
def alikB (a b : List UInt8) : Bool := decide (bareB a = bareB b)
theorem alike75 (a b : List UInt8) : PureC Tryz.prog 75 [.str a, .str b] (.bool (alikB a b)) := by
  refine pure_of_aw (ys := [_]) [] [] [] mixed Tryz.func75 rfl (by kernel_rfl) (by kernel_rfl) (by simp [Tryz.ntmps75]) rfl ?_
  simp
  refine pcall_of (trimp116 a) (by simp) ?_
  simp
  refine pcall_of (trimp116 b) (by simp) ?_
  unfold alikB
  by_cases h : bareB a = bareB b <;> simp [h, Tryz.results75]
theorem moment76 (D : List UInt8 → Int × Int) (x : Msg) (n : List UInt8) (hf : FdOk x.fs) (hn : n.length ≤ 1000000) (hD : DFor D x.fs n) : PureC Tryz.prog 76 [msP x, .str n] (.tp [.int (momB D x.fs n).1, .bool (momB D x.fs n).2]) := by
  refine pure_of_aw (ys := [_, _]) [] [] [] mixed Tryz.func76 rfl (by kernel_rfl) (by kernel_rfl) (by simp [Tryz.ntmps76]) rfl ?_
  simp
  refine pcall_of (one70 x.fs n hf hn) (by simp) ?_
  unfold momB
  unfold DFor at hD
  generalize oneB x.fs n = q at *
  obtain ⟨v, ok⟩ := q
  cases ok with
  | false => simp [Tryz.results76]
  | true =>
    simp
    refine pcall_of (hD rfl) (by simp) ?_
    simp [Tryz.results76]
def tagN : List UInt8 := [101, 116, 97, 103]
def inmH : List UInt8 := [73, 102, 45, 78, 111, 110, 101, 45, 77, 97, 116, 99, 104]
def imsH : List UInt8 := [73, 102, 45, 77, 111, 100, 105, 102, 105, 101, 100, 45, 83, 105, 110, 99, 101]
def condF (D : List UInt8 → Int × Int) (fs : List Fd) : List Fd := (if (oneB fs tagN).2 = true then [(inmH, (oneB fs tagN).1)] else []) ++ (if (momB D fs lamN).2 = true then [(imsH, (oneB fs lamN).1)] else [])
theorem Condition42 (D : List UInt8 → Int × Int) (x : Msg) (hf : FdOk x.fs) (hD : DFor D x.fs lamN) : PureC Tryz.prog 42 [msP x] (.sl ((condF D x.fs).map fdP)) := by
  have h1 := one70 x.fs tagN hf (by decide)
  have h2 := one70 x.fs lamN hf (by decide)
  have h3 := moment76 D x lamN hf (by decide) hD
  refine pure_of_aw (ys := [_]) [] [] [] mixed Tryz.func42 rfl (by kernel_rfl) (by kernel_rfl) (by simp [Tryz.ntmps42]) rfl ?_
  unfold condF
  generalize oneB x.fs tagN = p at *
  generalize oneB x.fs lamN = q at *
  generalize momB D x.fs lamN = r at *
  obtain ⟨p1, p2⟩ := p
  obtain ⟨q1, q2⟩ := q
  obtain ⟨r1, r2⟩ := r
  simp
  refine pcall_of h1 (by simp [tagN]) ?_
  cases p2 <;> simp
  all_goals
    refine pcall_of h3 (by simp [lamN]) ?_
    cases r2 <;> simp [inmH, imsH, Tryz.results42]
  all_goals
    refine pcall_of h2 (by simp [lamN]) ?_
    simp [inmH, imsH, Tryz.results42]
def confB (k r : Msg) : Bool :=
  if r.st ≠ 304 then false else
  if (oneB r.fs tagN).2 = true then (oneB k.fs tagN).2 && alikB (oneB r.fs tagN).1 (oneB k.fs tagN).1 else
  if (oneB r.fs lamN).2 = true then (oneB k.fs lamN).2 && decide ((oneB r.fs lamN).1 = (oneB k.fs lamN).1) else true
set_option maxHeartbeats 2000000 in
theorem Confirms44 (k r : Msg) (hk : FdOk k.fs) (hr : FdOk r.fs) : PureC Tryz.prog 44 [msP k, msP r] (.bool (confB k r)) := by
  have h1 := one70 k.fs tagN hk (by decide)
  have h2 := one70 r.fs tagN hr (by decide)
  have h3 := one70 k.fs lamN hk (by decide)
  have h4 := one70 r.fs lamN hr (by decide)
  have h5 := alike75 (oneB r.fs tagN).1 (oneB k.fs tagN).1
  refine pure_of_aw (ys := [_]) [] [] [] mixed Tryz.func44 rfl (by kernel_rfl) (by kernel_rfl) (by simp [Tryz.ntmps44]) rfl ?_
  unfold confB
  by_cases hs : r.st = 304
  case neg =>
    have d : (r.st != 304) = true := by simpa using hs
    simp [d, hs, Tryz.results44]
  have d : (r.st != 304) = false := by simpa using hs
  generalize oneB k.fs tagN = p1 at *
  generalize oneB r.fs tagN = p2 at *
  generalize oneB k.fs lamN = p3 at *
  generalize oneB r.fs lamN = p4 at *
  obtain ⟨p1, b1⟩ := p1
  obtain ⟨p2, b2⟩ := p2
  obtain ⟨p3, b3⟩ := p3
  obtain ⟨p4, b4⟩ := p4
  simp [d]
  refine pcall_of h1 (by simp [tagN]) ?_
  simp
  refine pcall_of h2 (by simp [tagN]) ?_
  cases b2 with
  | true =>
    cases b1 with
    | false => simp [hs, Tryz.results44]
    | true =>
      simp
      refine pcall_of h5 (by simp) ?_
      simp [hs, Tryz.results44]
  | false =>
    simp
    refine pcall_of h3 (by simp [lamN]) ?_
    simp
    refine pcall_of h4 (by simp [lamN]) ?_
    cases b4 with
    | false => simp [hs, Tryz.results44]
    | true =>
      cases b3 with
      | false => simp [hs, Tryz.results44]
      | true =>
        by_cases e : p4 = p3 <;> simp [hs, e, Tryz.results44]
end Go.Av

/-! part Z136 -/
namespace Go.Av
open Go.Proofs
set_option maxRecDepth 100000
def sameP (ok : Bool) (tag s : List UInt8) : Bool := decide (s = [42]) || (ok && alikB s tag)
theorem unch74 (ok : Bool) (tag s : List UInt8) : PureC Tryz.prog 74 [.str s, .ref (.bool ok), .ref (.str tag)] (.bool (sameP ok tag s)) := by
  have h := alike75 s tag
  refine pure_of_aw (ys := [_]) [] [] [] mixed Tryz.func74 rfl (by kernel_rfl) (by kernel_rfl) (by simp [Tryz.ntmps74]) rfl ?_
  unfold sameP
  generalize alikB s tag = B at *
  by_cases e : s = [42]
  · subst e
    simp [Tryz.results74]
  · have d : (s == [42]) = false := by simpa using e
    simp [d]
    cases ok with
    | false => simp [e, Tryz.results74]
    | true =>
      simp
      refine pcall_of h (by simp) ?_
      simp [e, Tryz.results74]
def inmN : List UInt8 := [105, 102, 45, 110, 111, 110, 101, 45, 109, 97, 116, 99, 104]
def imsN : List UInt8 := [105, 102, 45, 109, 111, 100, 105, 102, 105, 101, 100, 45, 115, 105, 110, 99, 101]
def unchB (D : List UInt8 → Int × Int) (q k : Msg) : Bool :=
  if k.st ≠ 200 then false else
  if getB q.fs inmN ≠ [] then (splitB (getB q.fs inmN)).any (sameP (oneB k.fs tagN).2 (oneB k.fs tagN).1)
  else (momB D q.fs imsN).2 && (momB D k.fs lamN).2 && decide ((momB D k.fs lamN).1 ≤ (momB D q.fs imsN).1)
set_option maxHeartbeats 2000000 in
theorem Unchanged31 (D : List UInt8 → Int × Int) (q k : Msg) (hm : q.m = [71, 69, 84]) (hq : FdOk q.fs) (hk : FdOk k.fs) (hD1 : DFor D q.fs imsN) (hD2 : DFor D k.fs lamN) : PureC Tryz.prog 31 [msP q, msP k] (.bool (unchB D q k)) := by
  have h1 := get107 q.fs inmN hq (by decide)
  have h2 := one70 k.fs tagN hk (by decide)
  have h3 := split_get q.fs inmN hq
  have h4 := anyf65 74 [.ref (.bool (oneB k.fs tagN).2), .ref (.str (oneB k.fs tagN).1)] (sameP (oneB k.fs tagN).2 (oneB k.fs tagN).1) (splitB (getB q.fs inmN)) (split_cnt q.fs inmN hq) (fun s _ => unch74 _ _ s)
  have h5 := moment76 D q imsN hq (by decide) hD1
  have h6 := moment76 D k lamN hk (by decide) hD2
  have hgl := getB_len q.fs inmN
  have hql := hq.1
  unfold unchB
  generalize (splitB (getB q.fs inmN)).any (sameP (oneB k.fs tagN).2 (oneB k.fs tagN).1) = A at *
  generalize splitB (getB q.fs inmN) = S at *
  generalize getB q.fs inmN = G at *
  generalize oneB k.fs tagN = p at *
  generalize momB D q.fs imsN = r1 at *
  generalize momB D k.fs lamN = r2 at *
  obtain ⟨p1, p2⟩ := p
  obtain ⟨u1, u2⟩ := r1
  obtain ⟨v1, v2⟩ := r2
  refine pure_of_aw (ys := [_]) [] [] [] mixed Tryz.func31 rfl (by kernel_rfl) (by kernel_rfl) (by simp [Tryz.ntmps31]) rfl ?_
  by_cases hs : k.st = 200
  case neg =>
    have d : (k.st != 200) = true := by simpa using hs
    simp [d, hs, Tryz.results31]
  have d : (k.st != 200) = false := by simpa using hs
  simp [d, hm]
  refine pcall_of h1 (by simp [inmN]) ?_
  cases G with
  | nil =>
    simp
    refine pcall_of h5 (by simp [imsN, hm]) ?_
    simp
    refine pcall_of h6 (by simp [lamN]) ?_
    simp [hs]
    cases u2 <;> cases v2 <;> simp [Tryz.results31]
  | cons a G =>
    have dd : (0 : Int) < (G.length : Int) + 1 := by omega
    simp [dd]
    refine pcall_of h2 (by simp [tagN]) ?_
    simp
    refine pcall_of h3 (by simp) ?_
    simp
    refine bcall_of0 h4 ⟨⟨_, rfl, .inl rfl⟩, ⟨rfl, ⟨_, _, rfl, rfl, rfl, ⟨_, rfl, .inl rfl⟩⟩, ⟨_, _, rfl, rfl, rfl, ⟨_, rfl, .inl rfl⟩⟩, trivial⟩, trivial⟩ rfl ?_
    simp [hs, Tryz.results31]
end Go.Av

/-! part Z137 -/
namespace Go.Av
open Go.Proofs
set_option maxRecDepth 100000
theorem rone47 (x : Msg) (n : List UInt8) (hf : FdOk x.fs) (hn : n.length ≤ 1000000) : PureC Tryz.prog 47 [msP x, .str n] (.tp [.str (oneB x.fs n).1, .bool (oneB x.fs n).2]) := by
  have hl := getB_len x.fs n
  have h1 := hf.1
  refine pure_of_aw (ys := [_, _]) [] [] [] mixed Tryz.func47 rfl (by kernel_rfl) (by kernel_rfl) (by simp [Tryz.ntmps47]) rfl ?_
  simp
  refine pcall_of (rget108 x.fs n hf hn) (by simp) ?_
  unfold oneB
  generalize getB x.fs n = L at *
  match L, hl with
  | [], _ => simp [Tryz.results47]
  | [v], _ => simp [Tryz.results47]
  | a :: b :: L, hl =>
    have c : ((L.length : Int) + 1 + 1 == 1) = false := by simp; omega
    simp [c, Tryz.results47]
theorem rsame48 (a b : List (List UInt8)) (ha : a.length ≤ 1000000) (hb : b.length ≤ 1000000) : PureC Tryz.prog 48 [.sl (a.map PC.str), .sl (b.map PC.str)] (.bool (decide (a = b))) := by
  refine pure_of_aw (ys := [_]) [] [] [] mixed Tryz.func48 rfl (by kernel_rfl) (by kernel_rfl) (by simp [Tryz.ntmps48]) rfl ?_
  obtain ⟨R, hR⟩ : ∃ R, R = decide (a = b) := ⟨_, rfl⟩
  rw [← hR]
  by_cases hl : a.length = b.length
  case neg =>
    have hn : ¬ a = b := fun e => hl (by rw [e])
    have d : ((a.length : Int) != (b.length : Int)) = true := by simp; omega
    rw [decide_eq_false hn] at hR
    subst hR
    simp [d, Tryz.results48]
  have d : ((a.length : Int) != (b.length : Int)) = false := by simp; omega
  simp [d]
  refine aw_loop0 (fun i : Nat => i ≤ a.length ∧ a.take i = b.take i) (fun i => [(0, .p (.sl (a.map PC.str))), (1, .p (.sl (b.map PC.str))), (5, .p (.int i))]) (fun i => a.length - i) 0 ⟨by simp, by simp⟩ (leN_id (by simp)) ?_
  rintro i ⟨h1, h2⟩
  by_cases c : i < a.length
  · have c2 : i < b.length := by omega
    have wi : IntKind.i64.wrap ((i : Int) + 1) = ((i + 1 : Nat) : Int) := by rw [wrap64_id (by omega) (by omega)]; rfl
    by_cases e : a[i] = b[i]
    · simp [c, c2, e, wi]
      exact ⟨i + 1, ⟨by omega, by rw [List.take_succ_eq_append_getElem c, List.take_succ_eq_append_getElem c2, h2, e]⟩, by omega, leN_id (by simp)⟩
    · have hd : (a[i] != b[i]) = true := by simpa using e
      have hn : ¬ a = b := fun h => e (by subst h; rfl)
      rw [decide_eq_false hn] at hR
      subst hR
      simp [c, c2, hd, Tryz.results48]
  · obtain rfl : i = a.length := by omega
    have e : a = b := by
      rw [List.take_length, hl, List.take_length] at h2; exact h2
    rw [decide_eq_true e] at hR
    subst hR
    simp [Tryz.results48]
theorem low_inm : lowB inmH = lowB inmN := by kernel_rfl
theorem low_ims : lowB imsH = lowB imsN := by kernel_rfl
theorem lowim1 : (lowB imsH == lowB inmN) = false := by kernel_rfl
theorem lowim2 : (lowB inmH == lowB imsN) = false := by kernel_rfl
theorem cond_inm (D : List UInt8 → Int × Int) (fs : List Fd) : getB (condF D fs) inmN = if (oneB fs tagN).2 = true then [(oneB fs tagN).1] else [] := by
  have h1 : ∀ v, isB inmN (inmH, v) = true := fun v => by simp [isB, low_inm]
  have h2 : ∀ v, isB inmN (imsH, v) = false := fun v => lowim1
  unfold condF
  by_cases a : (oneB fs tagN).2 = true <;> by_cases b : (momB D fs lamN).2 = true <;> simp [a, b, getB, h1, h2]
theorem cond_ims (D : List UInt8 → Int × Int) (fs : List Fd) : getB (condF D fs) imsN = if (momB D fs lamN).2 = true then [(oneB fs lamN).1] else [] := by
  have h1 : ∀ v, isB imsN (imsH, v) = true := fun v => by simp [isB, low_ims]
  have h2 : ∀ v, isB imsN (inmH, v) = false := fun v => lowim2
  unfold condF
  by_cases a : (oneB fs tagN).2 = true <;> by_cases b : (momB D fs lamN).2 = true <;> simp [a, b, getB, h1, h2]
theorem mom_one {D : List UInt8 → Int × Int} {fs : List Fd} {n : List UInt8} (h : (momB D fs n).2 = true) : (oneB fs n).2 = true := by
  unfold momB at h
  by_cases e : (oneB fs n).2 = true
  · exact e
  · rw [if_neg e] at h; simp at h
def reqM (D : List UInt8 → Int × Int) (k : Msg) : Msg := ⟨[71, 69, 84], [47], 0, [], 1, condF D k.fs, []⟩
theorem asked_unch (D : List UInt8 → Int × Int) (k : Msg) (hs : k.st = 200) (hc : condF D k.fs ≠ []) (hp : (oneB k.fs tagN).2 = false ∨ splitB [(oneB k.fs tagN).1] = [(oneB k.fs tagN).1]) : unchB D (reqM D k) k = true := by
  unfold unchB
  rw [if_neg (by simp [hs])]
  have hg := cond_inm D k.fs
  have hg2 := cond_ims D k.fs
  show (if getB (condF D k.fs) inmN ≠ [] then _ else _) = true
  by_cases a : (oneB k.fs tagN).2 = true
  · rw [if_pos a] at hg
    have hp' := hp.resolve_left (by simp [a])
    show (if getB (condF D k.fs) inmN ≠ [] then (splitB (getB (condF D k.fs) inmN)).any _ else _) = true
    rw [hg, if_pos (by simp), hp']
    simp [sameP, alikB, a]
  · rw [if_neg a] at hg
    rw [hg, if_neg (by simp)]
    have a' : (oneB k.fs tagN).2 = false := by simpa using a
    have b : (momB D k.fs lamN).2 = true := by
      cases hb : (momB D k.fs lamN).2 with
      | true => rfl
      | false => exact absurd (by simp [condF, a', hb]) hc
    rw [if_pos b] at hg2
    have hm : momB D (reqM D k).fs imsN = momB D k.fs lamN := by
      show momB D (condF D k.fs) imsN = _
      have ho : oneB (condF D k.fs) imsN = ((oneB k.fs lamN).1, true) := by unfold oneB at *; rw [hg2]
      unfold momB
      rw [ho, if_pos (mom_one b)]; rfl
    rw [hm, b]
    simp
theorem asked_conf (k : Msg) : confB k { k with st := 304 } = true := by
  unfold confB
  rw [if_neg (by simp)]
  simp only
  split
  · rename_i h; simp [h, alikB]
  · split
    · rename_i h; simp [h]
    · rfl
theorem drop_low {ns : List (List UInt8)} {f g : Fd} (h : lowB f.1 = lowB g.1) : dropP ns f = dropP ns g := by
  unfold dropP isB; rw [h]
theorem with_names (K : List Fd) : withB ((withB updL K).map (·.1)) K = K.filter fun f => dropP updL f := by
  unfold withB
  apply List.filter_congr
  intro f hf
  cases hd : dropP updL f with
  | false =>
    have : dropP ((K.filter fun f => !dropP updL f).map (·.1)) f = true := List.any_eq_true.2 ⟨f.1, List.mem_map.2 ⟨f, List.mem_filter.2 ⟨hf, by simp [hd]⟩, rfl⟩, by simp [isB]⟩
    simp [this]
  | true =>
    have : dropP ((K.filter fun f => !dropP updL f).map (·.1)) f = false := by
      cases hx : dropP ((K.filter fun f => !dropP updL f).map (·.1)) f with
      | false => rfl
      | true =>
        obtain ⟨n, hn, hi⟩ := List.any_eq_true.1 hx
        obtain ⟨g, hg, rfl⟩ := List.mem_map.1 hn
        have hg2 := (List.mem_filter.1 hg).2
        have he : lowB f.1 = lowB g.1 := by simpa [isB] using hi
        rw [drop_low (ns := updL) he] at hd
        simp [hd] at hg2
    simp [this]
theorem filt_len (p : Fd → Bool) (K : List Fd) : (K.filter p).length + (K.filter fun f => !p f).length = K.length := by
  induction K with
  | nil => rfl
  | cons f K ih =>
    cases h : p f <;> simp [h] <;> omega
theorem asked_upd (K : List Fd) (hK : keptF K = K) : updF K K = (K.filter fun f => dropP updL f) ++ K.filter fun f => !dropP updL f := by
  have hm : moreF K = withB updL K := by unfold moreF; rw [hK]
  unfold updF
  rw [hm, with_names]
  rfl
theorem asked_len (K : List Fd) (hK : keptF K = K) : (updF K K).length = K.length := by
  rw [asked_upd K hK, List.length_append]
  exact filt_len _ _
theorem asked_get (K : List Fd) (hK : keptF K = K) (f0 : Fd) : getB (updF K K) f0.1 = getB K f0.1 := by
  rw [asked_upd K hK, get_app]
  unfold getB
  rw [← List.map_append]
  congr 1
  rw [List.filter_filter, List.filter_filter]
  have hq : ∀ f : Fd, isB f0.1 f = true → dropP updL f = dropP updL f0 := fun f h => drop_low (by simpa [isB] using h)
  cases hd : dropP updL f0 with
  | true =>
    have h1 : (K.filter fun a => isB f0.1 a && dropP updL a) = K.filter (isB f0.1) := List.filter_congr fun f _ => by
      cases h : isB f0.1 f with
      | false => simp
      | true => simp [hq f h, hd]
    have h2 : (K.filter fun a => isB f0.1 a && !dropP updL a) = [] := List.filter_eq_nil_iff.2 fun f _ => by
      cases h : isB f0.1 f with
      | false => simp
      | true => simp [hq f h, hd]
    rw [h1, h2, List.append_nil]
  | false =>
    have h1 : (K.filter fun a => isB f0.1 a && dropP updL a) = [] := List.filter_eq_nil_iff.2 fun f _ => by
      cases h : isB f0.1 f with
      | false => simp
      | true => simp [hq f h, hd]
    have h2 : (K.filter fun a => isB f0.1 a && !dropP updL a) = K.filter (isB f0.1) := List.filter_congr fun f _ => by
      cases h : isB f0.1 f with
      | false => simp
      | true => simp [hq f h, hd]
    rw [h1, h2, List.nil_append]
end Go.Av

/-! part Z138 -/
namespace Go.Av
open Go.Proofs
set_option maxRecDepth 100000
set_option maxHeartbeats 40000000 in
theorem law12 (m : Msg) (hm : lenOk m) : PureC Tryz.prog 12 [msP m] (.bool true) := by
  have hsh := short22 [m] (by simp) (by simp [hm])
  simp only [List.map_cons, List.map_nil, List.all_cons, List.all_nil, Bool.and_true] at hsh
  refine pure_of_aw (ys := [_]) [] [(21, [(1, .r 1), (5, .r 2)])] [(1, 3), (2, 0)] mixed Tryz.func12 rfl (by kernel_rfl) (by kernel_rfl) (by simp [Tryz.ntmps12]) rfl ?_
  simp
  refine pcall_of awake21 (by simp) ?_
  simp
  refine pcall_of hsh (by simp) ?_
  cases hb : shrM m with
  | false =>
    simp
    refine pcall_of awake21 (by simp) ?_
    simp [Tryz.results12]
  | true =>
  obtain ⟨m1, m2⟩ := shr_ok hb
  have m3 := shr_b hb
  have hf := fd_ok2 (by omega) m2
  have hs := split_small (by omega) m2 cnnN
  have hK := Kept33 m hf hs (by omega)
  have k2 : ∀ f ∈ keptF m.fs, f.1.length ≤ 300 ∧ f.2.length ≤ 500 := fun f h => m2 f (kept_sub _ f h)
  have k1 := kept_len m.fs
  have hKK := kept_again m.fs
  simp only [keptM] at hK
  generalize keptF m.fs = K at *
  obtain ⟨k, hk⟩ : ∃ k : Msg, k = { m with fs := K } := ⟨_, rfl⟩
  have hkf : k.fs = K := by rw [hk]
  have hfK : FdOk k.fs := by rw [hkf]; exact fd_ok2 (by omega) k2
  have hDK : DFs parseD k.fs := by rw [hkf]; exact parse_Fs2 k2
  have hC := Condition42 parseD k hfK hDK.lam
  have hO := rone47 k tagN hfK (by decide)
  have htl : (oneB k.fs tagN).1.length ≤ 500 := by rw [hkf]; exact one_len k2 tagN
  have hSp : PureC Tryz.prog 38 [.sl [.str (oneB k.fs tagN).1]] (.sl ((splitB [(oneB k.fs tagN).1]).map PC.str)) := rsplit49 [(oneB k.fs tagN).1] (by simp) (by simp [totB]; omega) (by simp; omega)
  have hll : (oneB k.fs lamN).1.length ≤ 500 := by rw [hkf]; exact one_len k2 lamN
  have c2 : ∀ f ∈ condF parseD k.fs, f.1.length ≤ 300 ∧ f.2.length ≤ 500 := fun f h => by
    unfold condF at h
    rcases List.mem_append.1 h with h | h
    · split at h
      · simp at h; subst h; exact ⟨by simp [inmH], htl⟩
      · simp at h
    · split at h
      · simp at h; subst h; exact ⟨by simp [imsH], hll⟩
      · simp at h
  have c1 : (condF parseD k.fs).length ≤ 2 := by
    unfold condF; rw [List.length_append]; split <;> split <;> simp
  have hfC : FdOk (reqM parseD k).fs := fd_ok2 (by show (condF parseD k.fs).length ≤ 100; omega) c2
  have hDC : DFor parseD (reqM parseD k).fs imsN := fun _ => Parse117 _ (by have := one_len c2 imsN; show (oneB (condF parseD k.fs) imsN).1.length ≤ _; omega)
  have hUn := Unchanged31 parseD (reqM parseD k) k rfl hfC hfK hDC hDK.lam
  have hkb : k.body = m.body := by rw [hk]
  have hCf := Confirms44 k { k with st := 304 } hfK hfK
  rw [asked_conf] at hCf
  have hsK := split_small (fs := k.fs) (by rw [hkf]; omega) (by rw [hkf]; exact k2) cnnN
  have hUp := Update41 k { k with st := 304 } hfK hsK (by show k.body.length ≤ _; rw [hkb]; omega) (by rw [hkb]; omega) (by rw [hkf]; omega) (fun f h => by rw [hkf] at h; have := (k2 f h).1; omega) (by show k.fs.length ≤ _; rw [hkf]; omega)
  have hkl : k.fs.length ≤ 30 := by rw [hkf]; omega
  have hul : (updF k.fs k.fs).length = k.fs.length := asked_len k.fs (by rw [hkf]; exact hKK)
  have hug : ∀ f : Fd, getB (updF k.fs k.fs) f.1 = getB k.fs f.1 := fun f => asked_get k.fs (by rw [hkf]; exact hKK) f
  have hus : ∀ f ∈ updF k.fs k.fs, f ∈ k.fs := fun f h => (upd_sub _ _ f h).elim id id
  have hfU : FdOk (updF k.fs k.fs) := fd_ok2 (by rw [hul, hkf]; omega) (fun f h => k2 f (by rw [← hkf]; exact hus f h))
  have has := asked_unch parseD k
  have hK' : PureC Tryz.prog 33 [msP m] (msP k) := by rw [hk]; exact hK
  have hst : m.st = k.st := by rw [hk]
  clear hK
  have hUn2 : PureC Tryz.prog 31 [.agg false [.str [71, 69, 84], .str [47], .int 0, .str [], .int 1, .sl ((condF parseD k.fs).map fdP), .sl []], msP k] (.bool (unchB parseD (reqM parseD k) k)) := hUn
  clear hUn hfC hDC c2
  generalize unchB parseD (reqM parseD k) k = U at *
  generalize condF parseD k.fs = C at *
  generalize splitB [(oneB k.fs tagN).1] = S at *
  generalize oneB k.fs tagN = o at *
  obtain ⟨tag, ok⟩ := o
  simp only at has hSp hO
  have hS : (∃ x, S = [x]) ∨ ((S.length : Int) == 1) = false := by
    match S with
    | [] => exact .inr rfl
    | [x] => exact .inl ⟨x, rfl⟩
    | a :: b :: S => exact .inr (by simp; omega)
  simp
  refine pcall_of hK' (by simp) ?_
  simp
  refine pcall_of hC (by simp) ?_
  simp
  refine pcall_of hO (by simp [tagN]) ?_
  simp
  rcases hS with ⟨x, rfl⟩ | h3
  all_goals
    try cases h4 : (x == tag)
  all_goals
    cases h1 : (k.st == 200) <;> cases h2 : decide (0 < C.length) <;> cases ok
  all_goals
    refine pcall_of hSp (by simp) ?_
    first | simp [h1, h2, h3] | simp [h1, h2]
  all_goals
    try (refine pcall_of hSp (by simp) ?_; simp [h1, h2, h4])
  all_goals
    try (refine pcall_of hUn2 (by simp) ?_; rw [has (by simpa using h1) (by rintro rfl; simp at h2) (by first | exact .inl rfl | exact .inr (by simpa using h4))]; simp)
  all_goals
    refine pcall_of hCf (by simp) ?_
    simp
    refine pcall_of hUp (by simp) ?_
    simp [updM, hul]
    refine aw_loop (fun j : Nat => j ≤ k.fs.length) (fun j => [(3, .obj 0 0), (10, .obj 3 0), (11, .p (.int j))])
      (fun _ => ⟨[(0, ⟨27, 7, (msgL k).map .p⟩), (3, ⟨27, 7, (msgL (updM k { k with st := 304 })).map .p⟩)], [], 4⟩) (fun j => k.fs.length - j) 0 (by simp) _ (AS.le_refl _ _) (leN_id (by simp [updM])) ?_
    intro j hj
    by_cases c : j < k.fs.length
    · have wj : IntKind.i64.wrap ((j : Int) + 1) = ((j + 1 : Nat) : Int) := by rw [wrap64_id (by omega) (by omega)]; rfl
      have hn := hfK.2.2 k.fs[j] (List.getElem_mem c)
      have g1 := rget108 (updF k.fs k.fs) k.fs[j].1 hfU hn
      have g2 := rget108 k.fs k.fs[j].1 hfK hn
      rw [hug] at g1
      have gl := getB_len k.fs k.fs[j].1
      have g3 := rsame48 (getB k.fs k.fs[j].1) (getB k.fs k.fs[j].1) (by omega) (by omega)
      rw [decide_eq_true rfl] at g3
      simp [c, updM]
      refine call_of g1 ?_
      simp
      refine call_of g2 ?_
      simp
      refine call_of g3 ?_
      simp [wj]
      exact ⟨j + 1, by omega, by omega, leN_id (by simp [updM])⟩
    · obtain rfl : j = k.fs.length := by omega
      simp [updM, Tryz.results12]
end Go.Av

/-! part Z139 -/
namespace Go.Av
open Go.Proofs
theorem law12n {x : PC} (hx : msgS x) : PureC Tryz.prog 12 [x] (.bool true) := by
  obtain ⟨m, rfl, h⟩ := hx
  exact law12 m ⟨h.fs, h.b⟩
end Go.Av

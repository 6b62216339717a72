/- The law TopNever is proved where the arguments are of bulk at most 1048576 (the tied card): a manifest that is wrong, or whose images are others, is never brought: nothing goes out. Conditions: the statement's own bound. -/
import Derived.Test.YtplaamfoeaaaiaaGreatDoorG02
import Derived.Test.YtplaamfoeaaaiaaGreatDoorG41
set_option maxRecDepth 100000
set_option maxHeartbeats 8000000
set_option linter.unusedVariables false
namespace Go.Proofs.YtplaamfoeaaaiaaGreatDoor
open Go.RowKit
theorem ended_done {w : World} {H r : Nat} (h : EndedAt w H r) : Calls Tryz.prog 26 #[.pointer (some ⟨H, 0, none⟩)] w fun e w' => e = .returned (.tuple #[.bool true, errV r]) ∧ ∃ m, w' = w.drewN m := by
  obtain ⟨a1, a2, a3, a4, a5, a6, a7, a8, a9, a10, a11, a12, a13, a14, a15, a16, a17, h⟩ := h
  exact done_any H _ _ _ _ _ _ _ _ _ _ _ _ _ _ _ _ _ _ _ _ w h
theorem ended_brought {w : World} {H r : Nat} (h : EndedAt w H r) : Calls Tryz.prog 15 #[.pointer (some ⟨H, 0, none⟩)] w fun e w' => e = .returned (.int .i64 0) ∧ w = w' := by
  obtain ⟨a1, a2, a3, a4, a5, a6, a7, a8, a9, a10, a11, a12, a13, a14, a15, a16, a17, h⟩ := h
  exact brought_any H _ _ _ _ _ _ _ _ _ _ _ _ _ _ _ _ _ _ _ _ w h
theorem EndedAt.of_none {w w' : World} {H r : Nat} (h : EndedAt w H r) (o : Only [] w w') : EndedAt w' H r := by
  obtain ⟨a1, a2, a3, a4, a5, a6, a7, a8, a9, a10, a11, a12, a13, a14, a15, a16, a17, h⟩ := h
  exact ⟨a1, a2, a3, a4, a5, a6, a7, a8, a9, a10, a11, a12, a13, a14, a15, a16, a17, o.heap h (by simp)⟩
theorem wsent_is {w : World} {D : Nat} {fd : List Nat} {x : M.Wire} (h : WireIs w D fd x) : Calls Tryz.prog 19 #[.pointer (some ⟨D, 0, none⟩)] w fun e w' => e = .returned (.int .i64 x.n) ∧ w = w' := by
  obtain ⟨aa, ca, a, cp, h⟩ := h
  exact sent_any D _ aa ca _ x w h.wired
theorem ended_run {w : World} {W H T D U r : Nat} (hs : w.heap[W]? = some (.cells (worldA H T D U) 55 (0, 0))) (h : EndedAt w H r) :
    Calls Tryz.prog 11 #[.pointer (some ⟨W, 0, none⟩), .int .i64 1] w fun e w' => e = .returned (.tuple #[.bool true, errV r]) ∧ ∃ m, w' = w.drewN m := by
  have c0 : w.cell? ⟨W, 0, none⟩ = some (.pointer (some ⟨H, 0, none⟩)) := cell_at hs rfl
  have HD := LH (ended_done h)
  obtain ⟨er, her⟩ : ∃ er, er = errV r := ⟨_, rfl⟩
  rw [← her] at HD ⊢
  clear hs h her
  go_enter Tryz.func11, Tryz.ntmps11
  go_wp2_with fail
  go_loopw [10] (fun s10 wr => s10 = .int .i64 0 ∧ wr = w) (fun _ _ => 0)
  case atStart => exact ⟨rfl, rfl⟩
  case round =>
    obtain ⟨rfl, rfl⟩ := hrel
    go_wp2_with (go_at_call 26; go_loud (refine HD.out.mono ?_; rintro e w1 ⟨rfl, mm, rfl⟩))
    go_ret2
    exact ⟨rfl, mm, rfl⟩
theorem never_run (es : List M.Entry) (ims : List M.B) : runC [] 1 0 (sys0 ⟨2, 3⟩ 1 4096 es ims []) = true := by kernel_rfl
theorem never_runOk (es : List M.Entry) (ims : List M.B) : RunOk 1 0 (sys0 ⟨2, 3⟩ 1 4096 es ims []) := runC_ok (fun l hl => by simp at hl) (never_run es ims)
theorem never_cfg : cfgOf 1 1 = ⟨2, 3⟩ := by kernel_rfl
theorem never_tries : triesOf 1 = 1 := by decide +kernel
theorem right_good (es : List RE) (ims : List M.B) (h : rightE es ims = 0) : es.length ≤ 8 ∧ ∀ e, e ∈ es → e.Pos := by
  unfold rightE at h
  split at h
  · rename_i h1; exact absurd h h1
  · rename_i h1
    have hc : checkE es = 0 := by simpa using h1
    split at h
    · cases h
    · rename_i hl
      split at h
      · rename_i ha
        rw [List.all_eq_true] at ha
        have hlen : ims.length = es.length := by simpa using hl
        unfold checkE at hc
        split at hc
        · cases hc
        · rename_i h8
          refine ⟨by omega, fun e he => ?_⟩
          obtain ⟨k, hk, hke⟩ := List.mem_iff_getElem.1 he
          have hek : es[k]? = some e := by rw [List.getElem?_eq_getElem hk, hke]
          have hz : chkAt es k = 0 := by
            split at hc
            · rename_i hf
              rw [List.find?_eq_none] at hf
              have := hf k (List.mem_range.2 hk)
              simpa using this
            · rename_i j hj
              have := List.find?_some hj
              simp [hc] at this
          unfold chkAt at hz
          rw [hek] at hz
          simp only [chk1] at hz
          have hr : chkRange e = false := by
            cases hq : chkRange e with
            | false => rfl
            | true =>
              rw [hq] at hz
              split at hz
              · cases hz
              · split at hz
                · cases hz
                · simp at hz
          unfold chkRange at hr
          have hr' : ¬ (e.addr < 0 ∨ e.size < 1 ∨ 8192 < e.size ∨ 16384 - e.room < e.addr ∨ e.way < 0 ∨ 3 < e.way) := by simpa using hr
          obtain ⟨im, him⟩ : ∃ im, ims[k]? = some im := ⟨_, List.getElem?_eq_getElem (by omega)⟩
          have hfit := ha (e, im) (List.mem_of_getElem? (by rw [List.getElem?_zip_eq_some]; exact ⟨hek, him⟩))
          simp only [fitsE, Bool.and_eq_true, decide_eq_true_eq] at hfit
          exact ⟨by omega, by omega, by omega, by omega⟩
      · cases h
def badQ (es : List RE) (ims : List M.B) (q : Nat) : Bool := decide (checkE es ≠ 0 ∨ ims.length ≠ es.length) || (List.range q).any (fun j => !fitsE (es.getD j RE0) (ims.getD j []))
theorem badQ_step (es : List RE) (ims : List M.B) (q : Nat) (e : RE) (im : M.B) (he : es[q]? = some e) (hi : ims[q]? = some im) : badQ es ims (q + 1) = (badQ es ims q || !fitsE e im) := by
  unfold badQ
  rw [List.range_succ, List.any_append]
  simp [List.getD, he, hi, Bool.or_assoc]
theorem badQ_stay (es : List RE) (ims : List M.B) (q : Nat) (h : badQ es ims q = true) : badQ es ims (q + 1) = true := by
  unfold badQ at h ⊢
  rw [List.range_succ, List.any_append]
  simp only [Bool.or_eq_true] at h ⊢
  rcases h with h | h
  · exact .inl h
  · exact .inr (.inl h)
theorem badQ_zero (es : List RE) (ims : List M.B) : badQ es ims 0 = decide (checkE es ≠ 0 ∨ ims.length ≠ es.length) := by simp [badQ]
theorem badQ_end (es : List RE) (ims : List M.B) : badQ es ims es.length = decide (rightE es ims ≠ 0) := by
  by_cases hc : checkE es = 0
  · by_cases hl : ims.length = es.length
    · by_cases ha : ∀ (k : Nat) (e : RE) (im : M.B), es[k]? = some e → ims[k]? = some im → fitsE e im = true
      · rw [rightE_ok es ims hc hl ha]
        simp only [badQ, hc, hl, ne_eq, not_true_eq_false, or_self, decide_false, Bool.false_or]
        rw [List.any_eq_false]
        intro j hj
        rw [List.mem_range] at hj
        have h1 : es[j]? = some es[j] := List.getElem?_eq_getElem hj
        have h2 : ims[j]? = some (ims[j]'(by omega)) := List.getElem?_eq_getElem (by omega)
        rw [List.getD, List.getD, h1, h2]
        simp [ha j _ _ h1 h2]
      · have hx : ∃ (k : Nat) (e : RE) (im : M.B), es[k]? = some e ∧ ims[k]? = some im ∧ fitsE e im = false := by
          apply Classical.byContradiction
          intro hn
          apply ha
          intro k e im h1 h2
          cases hf : fitsE e im with
          | true => rfl
          | false => exact absurd ⟨k, e, im, h1, h2, hf⟩ hn
        obtain ⟨k, e, im, h1, h2, h3⟩ := hx
        rw [rightE_bad es ims hc hl k e im h1 h2 h3]
        have hk := (List.getElem?_eq_some_iff.1 h1).1
        have : (List.range es.length).any (fun j => !fitsE (es.getD j RE0) (ims.getD j [])) = true := by
          rw [List.any_eq_true]
          refine ⟨k, List.mem_range.2 hk, ?_⟩
          rw [List.getD, List.getD, h1, h2]
          simp [h3]
        unfold badQ
        rw [this]
        simp
    · rw [rightE_len es ims hc hl]
      simp [badQ, hl]
  · rw [rightE_chk es ims hc]
    simp [badQ, hc]
structure Man (w : World) (ea : Option Addr) (n ec : Nat) (es : List RE) (ia : Option Addr) (m ic : Nat) (ims : List M.B) (ro : List Nat) : Prop where
  he : EsRaw w ea es
  hn : es.length = n
  hec : n ≤ ec
  hen : ea = none → ec = 0
  hn8 : n ≤ 1000000
  hnm : ∀ e, e ∈ es → e.name.size ≤ 9223372036854775807
  hi : ImRaw w ro ia ims
  hm : ims.length = m
  hic : m ≤ ic
  hm8 : m ≤ 1048576
  hib : ∀ im, im ∈ ims → im.length ≤ 1048576
  hlive : Live w ro
theorem Man.of_none {w w' : World} {ea ia : Option Addr} {n ec m ic : Nat} {es : List RE} {ims : List M.B} {ro : List Nat} (h : Man w ea n ec es ia m ic ims ro) (o : Only [] w w') : Man w' ea n ec es ia m ic ims ro :=
  ⟨h.he.of_only o (fun ad e _ => by simp), h.hn, h.hec, h.hen, h.hn8, h.hnm, h.hi.of_only o (fun b _ => by simp), h.hm, h.hic, h.hm8, h.hib, h.hlive.ev o.size⟩
theorem Man.check {w : World} {ea ia : Option Addr} {n ec m ic : Nat} {es : List RE} {ims : List M.B} {ro : List Nat} (h : Man w ea n ec es ia m ic ims ro) : Calls Tryz.prog 17 #[.slice ea n ec] w (ChkPost es w) :=
  mcheck_is ea n ec es w h.he h.hn h.hec h.hnm
theorem Man.of {w : World} {ea ia : Option Addr} {n ec m ic : Nat} {es : List RE} {ims : List M.B} {ro : List Nat} (h : Man w ea n ec es ia m ic ims ro) (hg : Glob w) :
    Calls Tryz.prog 10 #[.agg #[.int .i64 (2 : Nat), .int .i64 (3 : Nat), .int .i64 (1 : Nat), .int .i64 (4096 : Nat), .slice none 0 0], .slice ea n ec, .slice ia m ic, .slice none 0 0, .slice none 0 0, .int .i64 0] w (WofPost ⟨2, 3⟩ 1 4096 es ims [] (rightE es ims) w) :=
  wof_is ⟨2, 3⟩ 1 4096 ea n ec es ia m ic ims ro none 0 0 [] w (by unfold CfgOk; simp only; omega) (by omega) (by omega) (by omega) (by omega) h.he h.hn h.hec h.hen h.hn8 h.hnm h.hi h.hm h.hic h.hm8 h.hib h.hlive hg ⟨rfl, .inl ⟨rfl, rfl, rfl⟩⟩ (by omega) (fun y hy => by simp at hy) (fun hr => by
    have := right_good es ims hr
    rw [h.hn] at this
    exact this)
theorem never_config (w : World) : Calls Tryz.prog 8 #[.int .u8 1, .int .u8 1] w fun e w' => e = .returned (.agg #[.int .i64 (2 : Nat), .int .i64 (3 : Nat), .int .i64 (1 : Nat), .int .i64 (4096 : Nat), .slice none 0 0]) ∧ Only [] w w' := by
  have h := config_is 1 1 w
  rw [never_cfg, never_tries] at h
  exact h
def incR (e : RE) : RE := { e with print := (e.print + 1) % 4294967296 }
def incE (E : List RE) (j : Nat) : List RE := (List.range E.length).map fun i => if i < j then incR (E.getD i RE0) else E.getD i RE0
theorem incE_length (E : List RE) (j : Nat) : (incE E j).length = E.length := by simp [incE]
theorem incE_zero (E : List RE) : incE E 0 = E := by
  apply List.ext_getElem
  · simp [incE]
  · intro i h1 h2
    simp [incE, List.getD, h2]
theorem incE_get (E : List RE) (j i : Nat) (e : RE) (h : E[i]? = some e) (hj : j ≤ i) : (incE E j)[i]? = some e := by
  obtain ⟨h1, h2⟩ := List.getElem?_eq_some_iff.1 h
  have : ¬ i < j := by omega
  simp [incE, h1, this, List.getD, h2]
theorem incE_step (E : List RE) (j : Nat) (e : RE) (h : E[j]? = some e) : incE E (j + 1) = (incE E j).set j { e with print := (e.print + 1) % 4294967296 } := by
  obtain ⟨h1, h2⟩ := List.getElem?_eq_some_iff.1 h
  apply List.ext_getElem
  · simp [incE]
  · intro i h3 h4
    rw [List.getElem_set]
    simp only [incE, List.getElem_map, List.getElem_range]
    by_cases hij : j = i
    · subst hij
      rw [if_pos (by omega), if_pos rfl]
      simp [List.getD, h, incR]
    · rw [if_neg hij]
      by_cases hlt : i < j
      · rw [if_pos (by omega), if_pos hlt]
      · rw [if_neg (by omega), if_neg hlt]
theorem incE_names (E : List RE) (j : Nat) (L : Nat) (h : ∀ e, e ∈ E → e.name.size ≤ L) : ∀ e, e ∈ incE E j → e.name.size ≤ L := by
  intro e he
  unfold incE at he
  rw [List.mem_map] at he
  obtain ⟨i, hi, rfl⟩ := he
  rw [List.mem_range] at hi
  have h1 : E.getD i RE0 ∈ E := by
    rw [List.getD, List.getElem?_eq_getElem hi]
    exact List.getElem_mem hi
  split
  · show (E.getD i RE0).name.size ≤ L
    exact h _ h1
  · exact h _ h1
def IncLoop (w w2 : World) (fa : Option Addr) (N fc : Nat) (E : List RE) (k : Nat) (wr : World) : Prop :=
  wr.ownsRow w.heap.size 39 5 (.slice fa N fc) N (esCells (incE E k)) ∧ Only (ownL (.slice fa N fc)) w2 wr
theorem esRaw_of_row {w : World} {base n c : Nat} {a : Option Addr} {es : List RE} (h : w.ownsRow base 39 5 (.slice a n c) n (esCells es)) (hn : es.length = n) : EsRaw w a es := by
  obtain ⟨c1, c2, c3⟩ := row_cap h
  refine ⟨fun e => List.eq_nil_of_length_eq_zero (by rw [hn]; exact (c2 e).2), fun ad e j u hj => ?_⟩
  obtain ⟨g, rfl⟩ := c3 ad e
  subst e
  have hjl := (List.getElem?_eq_some_iff.1 hj).1
  rw [esCells_length] at hjl
  rw [Addr.add_lit, Nat.zero_add]
  exact (h.cellAt j (by omega)).trans hj
theorem mkI_lens (b : M.B) (E : List RE) (j : Nat) : ∀ im, im ∈ mkI b E j → im.length ≤ 1048576 := by
  intro im h
  unfold mkI at h
  rw [List.mem_map] at h
  obtain ⟨i, _, rfl⟩ := h
  have hl : (M.dataOf b).length = 1024 := by simp [M.dataOf]
  have h2 : ((M.dataOf b).take (E.getD i RE0).size.toNat).length ≤ 1024 := by rw [List.length_take, hl]; omega
  unfold lawIm M.imageOf
  split
  · simp
  · rename_i x r hx
    rw [hx] at h2
    simp only [List.length_cons] at h2 ⊢
    omega
theorem mkE_names (b : M.B) (E : List RE) (j L : Nat) (h : ∀ e, e ∈ E → e.name.size ≤ L) : ∀ e, e ∈ mkE b E j → e.name.size ≤ L := by
  intro e he
  unfold mkE at he
  rw [List.mem_map] at he
  obtain ⟨i, hi, rfl⟩ := he
  rw [List.mem_range] at hi
  have h1 : E.getD i RE0 ∈ E := by
    rw [List.getD, List.getElem?_eq_getElem hi]
    exact List.getElem_mem hi
  split
  · show (E.getD i RE0).name.size ≤ L
    exact h _ h1
  · exact h _ h1
theorem lawEs_names (ra : List RA) : ∀ e, e ∈ lawEs ra → e.name.size ≤ 9223372036854775807 := by
  intro e he
  unfold lawEs lawFst at he
  rw [List.mem_map] at he
  obtain ⟨j, _, rfl⟩ := he
  unfold lawEntry lawName
  simp [ByteArray.size]
  omega
theorem own_man {w1 w2 wr : World} {fa ga : Option Addr} {N fc gc : Nat} {ra : List RA} {L : List RE} {b : M.B} {rp : List Nat} (hL : L = lawEs ra) (hN : L.length = N) (h8 : N ≤ 8) (hI : IncLoop w1 w2 fa N fc (mkE b L N) N wr) (hi : ImRaw w2 rp ga (mkI b L N)) (hl : Live w2 rp) (h1 : N ≤ fc) (h2 : fa = none → fc = 0) (h3 : N ≤ gc) (hz : ∀ ad, fa = some ad → ad.block ∉ rp) :
    Man wr fa N fc (incE (mkE b L N) N) ga N gc (mkI b L N) rp := by
  have hs : Sep rp (ownL (.slice fa N fc)) := fun x hx hm => by
    cases fa with
    | none => simp [ownL, Value.ownBlock] at hm
    | some ad =>
      simp [ownL, Value.ownBlock] at hm
      subst hm
      exact hz ad rfl hx
  refine ⟨esRaw_of_row hI.1 (by rw [incE_length, mkE_length, hN]), by rw [incE_length, mkE_length, hN], h1, h2, by omega, incE_names _ _ _ (mkE_names _ _ _ _ (by rw [hL]; exact lawEs_names ra)), hi.of_only hI.2 hs, mkI_length _ _ _, h3, by omega, mkI_lens _ _ _, hl.ev hI.2.size⟩
theorem never_good {W H T D U : Nat} {f : Nat → List Nat} {w : World} {es : List M.Entry} {ims : List M.B} (h : SysAt w W H T D U f 0 (sys0 ⟨2, 3⟩ 1 4096 es ims [])) :
    Calls Tryz.prog 11 #[.pointer (some ⟨W, 0, none⟩), .int .i64 1] w fun e w' => ∃ ov er, e = .returned (.tuple #[.bool ov, er]) ∧ Only (allF f) w w' := by
  refine (sysrun_is 1 W H T D U f 0 _ w h (by omega) (never_runOk _ _)).mono ?_
  rintro e w1 ⟨rfl, f', N', _, ev⟩
  exact ⟨_, _, rfl, ev.only⟩
theorem never_is (ea ia aa ba : Option Addr) (n ec m ic na ac mb bc : Nat) (es : List RE) (ims : List M.B) (ro : List Nat) (ra : List RA) (b : M.B) (w : World) (hM : Man w ea n ec es ia m ic ims ro) (hr : RaRaw w aa ra) (hna : ra.length = na) (hNa : na ≤ 9223372036854775807) (hb : Bytes w ba b) (hba : b = [] ∨ ∀ ad, ba = some ad → ad.block < w.heap.size) (hmb : b.length = mb) (hMb : mb ≤ 9223372036854775807) (hg : Glob w) :
    Calls Tryz.prog 5 #[.slice ea n ec, .slice ia m ic, .slice aa na ac, .slice ba mb bc] w fun e w' => e = .returned (.bool true) ∧ Only [] w w' := by
  have HAW := LH (awake_is w hg)
  have HMK := LH (fun wx (o : Only [] w wx) => make_is aa na ac ra ba mb bc b wx (hr.of_none o) hna hNa (hb.of_only o (.inr (fun ad e => by simp))) (hba.imp id (fun h ad e => Nat.lt_of_lt_of_le (h ad e) o.size)) hmb hMb)
  have hE8 : (lawEs ra).length ≤ 8 := by rw [lawEs, lawFst_length]; omega
  have HG := LH (AI hg hM)
  clear hg hM hr hna hb hba hmb
  obtain ⟨L, hL⟩ : ∃ L, L = lawEs ra := ⟨_, rfl⟩
  rw [← hL] at HMK hE8
  obtain ⟨N, hN⟩ : ∃ N, L.length = N := ⟨_, rfl⟩
  unfold MakePost at HMK
  rw [hN] at HMK hE8
  have HL := LH (AI hL hN)
  clear hL hN
  have hNi : (N : Int) ≤ 8 := by omega
  go_enter Tryz.func5, Tryz.ntmps5
  go_upto_region 4 with (first
    | (go_at_call 6; go_loud (refine HAW.out.mono ?_; rintro e w1 ⟨rfl, o1⟩; have H1 := LH o1; clear o1))
    | (go_at_call 16; go_loud (refine (HMK.out w1 H1.out).mono ?_; rintro e w2 ⟨fa, fc, ga, gc, rp, rfl, he, hi, o2, hl, h1, h2, h3, h4, hw, hz⟩)))
  have H2 := LH (AI hi (AI o2 (AI hl (AI h1 (AI h2 (AI h3 hz))))))
  have hst : IncLoop w1 w2 fa N fc (mkE b L N) 0 w2 := ⟨by rw [incE_zero]; exact hw, Only.refl _ _⟩
  have HST := LH hst
  clear he hi o2 hl h1 h2 h3 h4 hw hz hst
  go_wp2_with fail
  go_loopw [31] (fun s31 wr => ∃ k : Nat, k ≤ N ∧ s31 = .int .i64 k ∧ IncLoop w1 w2 fa N fc (mkE b L N) k wr) (fun s31 _ => N - (intOf s31).toNat)
  case atStart => exact ⟨0, Nat.zero_le _, rfl, HST.out⟩
  case round =>
    obtain ⟨k, hk, rfl, hw, ho⟩ := hrel
    by_cases hlt : k < N
    · obtain ⟨e, he⟩ : ∃ e, (mkE b L N)[k]? = some e := ⟨_, List.getElem?_eq_getElem (by rw [mkE_length, HL.out.2]; exact hlt)⟩
      obtain ⟨G, cur, rfl, hGc⟩ : ∃ G cur, fa = some ⟨G, 0, none⟩ ∧ wr.heap[G]? = some (.cells cur 39 (0, 0)) := by
        rcases hw.2 with ⟨q1, q2⟩ | ⟨g, cap, cur, q1, q2, q3, q4⟩
        · omega
        · cases q1
          exact ⟨g, cur, rfl, q3⟩
      have c3 : wr.cell? ⟨G, k * 5 + 3, none⟩ = some (.int .u32 e.print) := (hw.cellAt (k * 5 + 3) (by omega)).trans (esCells_get _ k e (incE_get _ k k e he (Nat.le_refl _))).2.2.2.1
      have fG : wr.frozen? ⟨G, k * 5 + 3, none⟩ = false := free_at hGc
      have HX := LH (AI he (AI hw ho))
      clear he hw ho hGc
      go_upto_region 8 with fail
      go_wp2_with fail
      refine ⟨⟨k + 1, by omega, by go_num, ?_, HX.out.2.2.trans (only_set wr G _ _)⟩, by simp [intOf]; omega⟩
      rw [incE_step _ k e HX.out.1, ← esCells_set _ k e _ (incE_get _ k k e HX.out.1 (Nat.le_refl _))]
      exact ownsRow_set HX.out.2.1 _
    · obtain rfl : k = N := by omega
      have kl : ¬ ((k : Int) < (k : Int)) := by omega
      have hm2 := own_man HL.out.1 HL.out.2 hE8 ⟨hw, ho⟩ H2.out.1 H2.out.2.2.1 H2.out.2.2.2.1 H2.out.2.2.2.2.1 H2.out.2.2.2.2.2.1 H2.out.2.2.2.2.2.2
      have o3 : Only [] w wr := only_new (H1.out.trans H2.out.2.1) ho (fun x hx => by have := (hw.lt x (mem_ownL.1 hx)).1; have := H1.out.size; omega)
      obtain ⟨fs, hfs⟩ : ∃ fs, fs = incE (mkE b L k) k := ⟨_, rfl⟩
      obtain ⟨own, hown⟩ : ∃ own, own = mkI b L k := ⟨_, rfl⟩
      rw [← hfs, ← hown] at hm2
      have H3 := LH (AI hm2 (AI o3 ((HG.out.2).of_none o3)))
      clear hm2 o3 hfs hown hw ho
      go_upto_region 10 with fail
      obtain ⟨S, hS⟩ : ∃ S, S = wr.heap.size := ⟨_, rfl⟩
      obtain ⟨w4, ew4⟩ : ∃ w4, w4 = wr.alloc (.cells #[.slice ea n ec, .slice ia m ic, .slice fa k fc, .slice ga k gc] 62) := ⟨_, rfl⟩
      have hS4 : w4.heap[S]? = some (.cells #[.slice ea n ec, .slice ia m ic, .slice fa k fc, .slice ga k gc] 62 (0, 0)) := by rw [ew4, hS]; exact heap_alloc_new wr _
      have o34 : Only [] wr w4 := by rw [ew4]; exact (Only.refl [] wr).alloc _
      rw [← hS, ← ew4]
      have H4 := LH (AI hS4 (AI (H3.out.1.of_none o34) (AI (H3.out.2.2.of_none o34) (AI (H3.out.2.1.trans o34) (HG.out.1.of_none (H3.out.2.1.trans o34))))))
      clear hS4 o34 ew4 hS
      go_wp2_with fail
      go_loopw [51] (fun s51 wq => ∃ q : Nat, q ≤ 2 ∧ s51 = .int .i64 q ∧ Only [] w4 wq) (fun s51 _ => 2 - (intOf s51).toNat)
      case atStart => exact ⟨0, Nat.zero_le _, rfl, Only.refl _ _⟩
      case round =>
        obtain ⟨q, hq, rfl, oq⟩ := hrel
        by_cases hlq : q < 2
        · obtain ⟨pa, pn, pc, pe, qa, qn, qc, qi, pr, d0, d1, hMq⟩ : ∃ pa pn pc pe qa qn qc qi pr, wr.cell? ⟨S, q * 2, none⟩ = some (.slice pa pn pc) ∧ wr.cell? ⟨S, q * 2 + 1, none⟩ = some (.slice qa qn qc) ∧ Man wr pa pn pc pe qa qn qc qi pr := by
            have hS := oq.heap H4.out.1 (by simp)
            have : q = 0 ∨ q = 1 := by omega
            rcases this with rfl | rfl
            · exact ⟨ea, n, ec, es, ia, m, ic, ims, ro, cell_at hS rfl, cell_at hS rfl, H4.out.2.2.1.of_none oq⟩
            · exact ⟨fa, k, fc, fs, ga, k, gc, own, rp, cell_at hS rfl, cell_at hS rfl, H4.out.2.1.of_none oq⟩
          have hpn := hMq.hn8
          have hqn := hMq.hm8
          have HM := LH hMq
          have HQ := LH oq
          clear hMq oq
          go_upto_region 12 with fail
          obtain ⟨P, hP⟩ : ∃ P, P = wr.heap.size := ⟨_, rfl⟩
          obtain ⟨w5, ew5⟩ : ∃ w5, w5 = wr.alloc (.cells #[.slice pa pn pc, .slice qa qn qc] 62) := ⟨_, rfl⟩
          have hP5 : w5.heap[P]? = some (.cells #[.slice pa pn pc, .slice qa qn qc] 62 (0, 0)) := by rw [ew5, hP]; exact heap_alloc_new wr _
          have o5 : Only [] wr w5 := by rw [ew5]; exact (Only.refl [] wr).alloc _
          rw [← hP, ← ew5]
          have p0 : w5.cell? ⟨P, 0, none⟩ = some (.slice pa pn pc) := cell_at hP5 rfl
          have p1 : w5.cell? ⟨P, 1, none⟩ = some (.slice qa qn qc) := cell_at hP5 rfl
          have HC := LH ((HM.out.of_none o5).check)
          unfold ChkPost at HC
          have H5 := LH (AI o5 (HM.out.of_none o5))
          clear ew5 hP5 o5 hP d0 d1
          by_cases hc : checkE pe = 0
          · by_cases hl : qn = pn
            · subst hl
              rw [hc, errV_zero] at HC
              have hx := fun w => neq_nn w
              have hd : ((qn : Int) != (qn : Int)) = false := by simp
              have HCE := LH hc
              clear hc
              go_upto_region 14 with (go_at_call 17; go_loud (refine HC.out.mono ?_; rintro e w6 ⟨kk, rfl, o6⟩; have v0 := o6.cell p0 (by simp); have v1 := o6.cell p1 (by simp); have H6 := LH o6; clear o6 p0 p1))
              clear hx hd
              go_wp2_with fail
              go_loopw [16, 75] (fun s16 s75 wq => ∃ j : Nat, j ≤ qn ∧ s75 = .int .i64 j ∧ s16 = .bool (badQ pe qi j) ∧ Only [] w6 wq) (fun _ s75 _ => qn - (intOf s75).toNat)
              case atStart => exact ⟨0, Nat.zero_le _, rfl, (by rw [badQ_zero, HCE.out, HM.out.hm, HM.out.hn]; simp), Only.refl _ _⟩
              case round =>
                obtain ⟨j, hj, rfl, rfl, oj⟩ := hrel
                replace v0 := oj.cell v0 (by simp)
                replace v1 := oj.cell v1 (by simp)
                by_cases hlj : j < qn
                · have HJ := LH oj
                  clear oj
                  by_cases hb : badQ pe qi j = true
                  · have HB := LH (badQ_stay pe qi j hb)
                    rw [hb]
                    clear hb
                    go_upto_region 17 with fail
                    refine wp_region_held_drew (S := (fun w' => w'.cell? ⟨P, 0, none⟩ = some (.slice pa qn pc) ∧ w'.cell? ⟨P, 1, none⟩ = some (.slice qa qn qc))) (by kernel_rfl) (⟨v0, v1⟩) (fun hHeld => ?_)
                    refine wI 0 ?_
                    try simp only [Act.put, gs]
                    refine wI 1 ?_
                    try simp only [Act.put, gs]
                    refine wK 2 ?_
                    try simp only [Act.put, gs]
                    refine wK 3 ?_
                    try simp only [Act.put, gs]
                    refine wK 4 ?_
                    try simp only [Act.put, gs]
                    refine wK 5 ?_
                    try simp only [Act.put, gs]
                    refine wK 6 ?_
                    try simp only [Act.put, gs]
                    refine wK 7 ?_
                    try simp only [Act.put, gs]
                    refine wK 8 ?_
                    try simp only [Act.put, gs]
                    refine wK 9 ?_
                    try simp only [Act.put, gs]
                    refine wK 10 ?_
                    try simp only [Act.put, gs]
                    refine wK 11 ?_
                    try simp only [Act.put, gs]
                    refine wK 12 ?_
                    try simp only [Act.put, gs]
                    refine wK 13 ?_
                    try simp only [Act.put, gs]
                    refine wK 14 ?_
                    try simp only [Act.put, gs]
                    refine wI 15 ?_
                    try simp only [Act.put, gs]
                    refine wI 16 ?_
                    try simp only [Act.put, gs]
                    refine wK 17 ?_
                    try simp only [Act.put, gs]
                    refine wK 18 ?_
                    try simp only [Act.put, gs]
                    refine wK 19 ?_
                    try simp only [Act.put, gs]
                    refine wK 20 ?_
                    try simp only [Act.put, gs]
                    refine wK 21 ?_
                    try simp only [Act.put, gs]
                    refine wK 22 ?_
                    try simp only [Act.put, gs]
                    refine wK 23 ?_
                    try simp only [Act.put, gs]
                    refine wK 24 ?_
                    try simp only [Act.put, gs]
                    refine wK 25 ?_
                    try simp only [Act.put, gs]
                    refine wK 26 ?_
                    try simp only [Act.put, gs]
                    refine wK 27 ?_
                    try simp only [Act.put, gs]
                    refine wK 28 ?_
                    try simp only [Act.put, gs]
                    refine wK 29 ?_
                    try simp only [Act.put, gs]
                    refine wI 30 ?_
                    try simp only [Act.put, gs]
                    refine wI 31 ?_
                    try simp only [Act.put, gs]
                    refine wpAnyH_done (by kernel_rfl) ?_ _
                    clear hHeld
                    go_wp2_with fail
                    exact ⟨⟨j + 1, by omega, by go_num, by rw [HB.out], HJ.out.drew⟩, by simp [intOf]; omega⟩
                  · have hbf : badQ pe qi j = false := by simpa using hb
                    have hman := (H5.out.2.of_none H6.out).of_none HJ.out
                    obtain ⟨e, he⟩ : ∃ e, pe[j]? = some e := ⟨_, List.getElem?_eq_getElem (by rw [hman.hn]; exact hlj)⟩
                    obtain ⟨im, him⟩ : ∃ im, qi[j]? = some im := ⟨_, List.getElem?_eq_getElem (by rw [hman.hm]; exact hlj)⟩
                    have hst := badQ_step pe qi j e im he him
                    rw [hbf, Bool.false_or] at hst
                    obtain ⟨eB, eo, rfl, hes⟩ := hman.he.at0 (by rw [hman.hn]; omega)
                    obtain ⟨iB, io, rfl, his⟩ := hman.hi.at0 (by rw [hman.hm]; omega)
                    obtain ⟨_, _, q2, q3, _⟩ := hes j e he
                    obtain ⟨u, i0, au, cu, rfl, bu, cu1, cu2, cu3, cu4⟩ := his j im him
                    obtain ⟨Li, hLi⟩ : ∃ Li, im.length = Li := ⟨_, rfl⟩
                    rw [hLi] at i0
                    have hlb : Li ≤ 1048576 := by rw [← hLi]; exact hman.hib im (List.mem_of_getElem? him)
                    have HPR := LH (fun wx (o : Only [] wr wx) => print_any au im Li cu wx (bu.of_only o (.inr (fun ad e => by simp))) (cu4.imp id (fun h ad ea => Nat.lt_of_lt_of_le (hman.hlive _ (h ad ea)) o.size)) hLi (by omega))
                    have HT := LH (AI hst hLi)
                    have hec := hman.hec
                    have hic := hman.hic
                    rw [hbf]
                    clear hbf hb hman he him hst hes his bu cu1 cu2 cu3 cu4 hLi
                    by_cases t1 : (Li : Int) = e.size
                    · have d1 : ((Li : Int) != e.size) = false := by simpa using t1
                      have HT1 := LH t1
                      clear t1
                      go_upto_region 17 with fail
                      refine wp_region_held_drew (S := (fun w' => w'.cell? ⟨P, 0, none⟩ = some (.slice (some ⟨eB, eo, none⟩) qn pc) ∧ w'.cell? ⟨P, 1, none⟩ = some (.slice (some ⟨iB, io, none⟩) qn qc) ∧ w'.cell? ⟨iB, io + j, none⟩ = some (.slice au Li cu) ∧ w'.cell? ⟨eB, eo + j * 5 + 2, none⟩ = some (.int .i64 e.size) ∧ w'.cell? ⟨eB, eo + j * 5 + 3, none⟩ = some (.int .u32 e.print))) (by kernel_rfl) (⟨v0, v1, i0, q2, q3⟩) (fun hHeld => ?_)
                      refine wI 0 ?_
                      try simp only [Act.put, gs]
                      refine wI 1 ?_
                      try simp only [Act.put, gs]
                      refine wI 2 ?_
                      try simp only [Act.put, gs]
                      refine wI 3 ?_
                      try simp only [Act.put, gs]
                      refine wI 4 ?_
                      try simp only [Act.put, gs]
                      refine wI 5 ?_
                      try simp only [Act.put, gs]
                      refine wI 6 ?_
                      try simp only [Act.put, gs]
                      refine wI 7 ?_
                      try simp only [Act.put, gs]
                      refine wI 8 ?_
                      try simp only [Act.put, gs]
                      refine wI 9 ?_
                      try simp only [Act.put, gs]
                      refine wI 10 ?_
                      try simp only [Act.put, gs]
                      refine wI 11 ?_
                      try simp only [Act.put, gs]
                      refine wI 12 ?_
                      try simp only [Act.put, gs]
                      refine wI 13 ?_
                      try simp only [Act.put, gs]
                      refine wI 14 ?_
                      try simp only [Act.put, gs]
                      refine wI 15 ?_
                      try simp only [Act.put, gs]
                      refine wI 16 ?_
                      try simp only [Act.put, gs]
                      refine wI 17 ?_
                      try simp only [Act.put, gs]
                      refine wI 18 ?_
                      try simp only [Act.put, gs]
                      refine wI 19 ?_
                      try simp only [Act.put, gs]
                      refine wI 20 ?_
                      try simp only [Act.put, gs]
                      refine wI 21 ?_
                      try simp only [Act.put, gs]
                      refine wI 23 ?_
                      try simp only [Act.put, gs]
                      refine wI 24 ?_
                      try simp only [Act.put, gs]
                      refine wI 25 ?_
                      try simp only [Act.put, gs]
                      refine wI 26 ?_
                      try simp only [Act.put, gs]
                      refine wI 27 ?_
                      try simp only [Act.put, gs]
                      refine wI 28 ?_
                      try simp only [Act.put, gs]
                      refine wpAnyH_ready (rs := [22]) (by kernel_rfl) (by simp) ?_
                      refine AllReadyH.cons (o := _) rfl (fun K hK => ?_) AllReadyH.nil
                      go_simp
                      refine (HPR.out _ ((Only.refl [] wr).drew)).mono ?_
                      rintro zz w7 ⟨rfl, o7⟩
                      refine hK.out _ _ (⟨o7.cell hHeld.1 (by simp), o7.cell hHeld.2.1 (by simp), o7.cell hHeld.2.2.1 (by simp), o7.cell hHeld.2.2.2.1 (by simp), o7.cell hHeld.2.2.2.2 (by simp)⟩) (fun hHeld => ?_)
                      clear hK K
                      try simp only [Act.put, gs]
                      refine wI 29 ?_
                      try simp only [Act.put, gs]
                      refine wI 30 ?_
                      try simp only [Act.put, gs]
                      refine wI 31 ?_
                      try simp only [Act.put, gs]
                      refine wpAnyH_done (by kernel_rfl) ?_ _
                      clear hHeld
                      clear d1
                      go_wp2_with fail
                      exact ⟨⟨j + 1, by omega, by go_num, by rw [HT.out.1]; simp [fitsE, HT.out.2, HT1.out, bne]; rw [Bool.eq_iff_iff]; simp, (HJ.out.drew).trans o7⟩, by simp [intOf]; omega⟩
                    · have d1 : ((Li : Int) != e.size) = true := by simpa using t1
                      have HT1 := LH t1
                      clear t1
                      go_upto_region 17 with fail
                      refine wp_region_held_drew (S := (fun w' => w'.cell? ⟨P, 0, none⟩ = some (.slice (some ⟨eB, eo, none⟩) qn pc) ∧ w'.cell? ⟨P, 1, none⟩ = some (.slice (some ⟨iB, io, none⟩) qn qc) ∧ w'.cell? ⟨iB, io + j, none⟩ = some (.slice au Li cu) ∧ w'.cell? ⟨eB, eo + j * 5 + 2, none⟩ = some (.int .i64 e.size) ∧ w'.cell? ⟨eB, eo + j * 5 + 3, none⟩ = some (.int .u32 e.print))) (by kernel_rfl) (⟨v0, v1, i0, q2, q3⟩) (fun hHeld => ?_)
                      refine wI 0 ?_
                      try simp only [Act.put, gs]
                      refine wI 1 ?_
                      try simp only [Act.put, gs]
                      refine wI 2 ?_
                      try simp only [Act.put, gs]
                      refine wI 3 ?_
                      try simp only [Act.put, gs]
                      refine wI 4 ?_
                      try simp only [Act.put, gs]
                      refine wI 5 ?_
                      try simp only [Act.put, gs]
                      refine wI 6 ?_
                      try simp only [Act.put, gs]
                      refine wI 7 ?_
                      try simp only [Act.put, gs]
                      refine wI 8 ?_
                      try simp only [Act.put, gs]
                      refine wI 9 ?_
                      try simp only [Act.put, gs]
                      refine wI 10 ?_
                      try simp only [Act.put, gs]
                      refine wI 11 ?_
                      try simp only [Act.put, gs]
                      refine wI 12 ?_
                      try simp only [Act.put, gs]
                      refine wI 13 ?_
                      try simp only [Act.put, gs]
                      refine wI 14 ?_
                      try simp only [Act.put, gs]
                      refine wI 15 ?_
                      try simp only [Act.put, gs]
                      refine wI 16 ?_
                      try simp only [Act.put, gs]
                      refine wK 17 ?_
                      try simp only [Act.put, gs]
                      refine wK 18 ?_
                      try simp only [Act.put, gs]
                      refine wK 19 ?_
                      try simp only [Act.put, gs]
                      refine wK 20 ?_
                      try simp only [Act.put, gs]
                      refine wK 21 ?_
                      try simp only [Act.put, gs]
                      refine wK 22 ?_
                      try simp only [Act.put, gs]
                      refine wK 23 ?_
                      try simp only [Act.put, gs]
                      refine wK 24 ?_
                      try simp only [Act.put, gs]
                      refine wK 25 ?_
                      try simp only [Act.put, gs]
                      refine wK 26 ?_
                      try simp only [Act.put, gs]
                      refine wK 27 ?_
                      try simp only [Act.put, gs]
                      refine wK 28 ?_
                      try simp only [Act.put, gs]
                      refine wK 29 ?_
                      try simp only [Act.put, gs]
                      refine wI 30 ?_
                      try simp only [Act.put, gs]
                      refine wI 31 ?_
                      try simp only [Act.put, gs]
                      refine wpAnyH_done (by kernel_rfl) ?_ _
                      clear hHeld
                      clear d1
                      go_wp2_with fail
                      exact ⟨⟨j + 1, by omega, by go_num, by rw [HT.out.1]; simp [fitsE, HT.out.2, HT1.out], HJ.out.drew⟩, by simp [intOf]; omega⟩
                · obtain rfl : qn = j := by omega
                  have kl : ¬ ((qn : Int) < (qn : Int)) := by omega
                  have HJ := LH oj
                  clear oj
                  have hbe := badQ_end pe qi
                  rw [HM.out.hn] at hbe
                  rw [hbe]
                  clear hbe
                  by_cases hr0 : rightE pe qi = 0
                  · have HR := LH hr0
                    have hdc : decide (rightE pe qi ≠ 0) = false := by simpa using hr0
                    rw [hdc]
                    clear hdc hr0
                    go_upto_region 19 with fail
                    have HO := LH (fun wx (o : Only [] wr wx) => (((H5.out.2.of_none H6.out).of_none HJ.out).of_none o).of (((((H4.out.2.2.2.2.of_none HQ.out).of_none H5.out.1).of_none H6.out).of_none HJ.out).of_none o))
                    go_region_held3 (fun w' => w'.cell? ⟨P, 0, none⟩ = some (.slice pa qn pc) ∧ w'.cell? ⟨P, 1, none⟩ = some (.slice qa qn qc))
                      (first | exact ⟨v0, v1⟩ | exact ⟨o7.cell v0 (by simp), o7.cell v1 (by simp)⟩ | exact ⟨o8.cell (o7.cell v0 (by simp)) (by simp), o8.cell (o7.cell v1 (by simp)) (by simp)⟩ | go_keep)
                      ((first
                        | (go_at_call 8; go_loud (refine (never_config _).mono ?_; rintro e w7 ⟨rfl, o7⟩))
                        | (go_at_call 10; go_loud (refine (HO.out _ (((Only.refl [] wr).drew).trans o7)).mono ?_; rintro e w8 ⟨W, H, T, D, U, rfl, o8, hW, hgo, _⟩))))
                    rename_i hHeld
                    clear hHeld v0 v1
                    obtain ⟨f, hS8, hf8⟩ := hgo HR.out
                    have HRN := LH (never_good hS8)
                    have o47 := (((HQ.out.trans H5.out.1).trans H6.out).trans HJ.out).trans (((Only.refl [] wr).drew).trans o7)
                    have H8 := LH (AI (o47.trans o8) (AI hf8 o47.size))
                    clear hS8 hf8 hgo hW o7 o8 o47
                    go_upto_region 21 with (go_at_call 11; go_loud (refine HRN.out.mono ?_; rintro e w9 ⟨ov, er, rfl, o9⟩))
                    go_wp2_with fail
                    exact ⟨⟨q + 1, by omega, by go_num, only_new H8.out.1 o9 (fun b hb => Nat.le_trans H8.out.2.2 (H8.out.2.1 b hb))⟩, by simp [intOf]; omega⟩
                  · have HR := LH hr0
                    have hdc : decide (rightE pe qi ≠ 0) = true := by simpa using hr0
                    rw [hdc]
                    clear hdc hr0
                    go_upto_region 19 with fail
                    have HO := LH (fun wx (o : Only [] wr wx) => (((H5.out.2.of_none H6.out).of_none HJ.out).of_none o).of (((((H4.out.2.2.2.2.of_none HQ.out).of_none H5.out.1).of_none H6.out).of_none HJ.out).of_none o))
                    go_region_held3 (fun w' => w'.cell? ⟨P, 0, none⟩ = some (.slice pa qn pc) ∧ w'.cell? ⟨P, 1, none⟩ = some (.slice qa qn qc))
                      (first | exact ⟨v0, v1⟩ | exact ⟨o7.cell v0 (by simp), o7.cell v1 (by simp)⟩ | exact ⟨o8.cell (o7.cell v0 (by simp)) (by simp), o8.cell (o7.cell v1 (by simp)) (by simp)⟩ | go_keep)
                      ((first
                        | (go_at_call 8; go_loud (refine (never_config _).mono ?_; rintro e w7 ⟨rfl, o7⟩))
                        | (go_at_call 10; go_loud (refine (HO.out _ (((Only.refl [] wr).drew).trans o7)).mono ?_; rintro e w8 ⟨W, H, T, D, U, rfl, o8, hW, _, hbad⟩))))
                    rename_i hHeld
                    clear hHeld v0 v1
                    obtain ⟨hs8, hE9, _, fd, hwd, _⟩ := hbad HR.out
                    have c0 : w8.cell? ⟨W, 0, none⟩ = some (.pointer (some ⟨H, 0, none⟩)) := cell_at hs8 rfl
                    have c2 : w8.cell? ⟨W, 2, none⟩ = some (.pointer (some ⟨D, 0, none⟩)) := cell_at hs8 rfl
                    have HRN := LH (ended_run hs8 hE9)
                    rw [errV_pos (by have := HR.out; omega)] at HRN
                    have H8 := LH (AI hE9 (AI hwd ((((((HQ.out.trans H5.out.1).trans H6.out).trans HJ.out).trans (((Only.refl [] wr).drew).trans o7))).trans o8)))
                    clear hs8 hE9 hwd hbad hW o7 o8
                    go_upto_region 21 with (go_at_call 11; go_loud (refine HRN.out.mono ?_; rintro e w9 ⟨rfl, mm, ew9⟩; have o9 : Only [] w8 w9 := (by rw [ew9]; exact only_drewN [] w8 mm); have c09 := o9.cell c0 (by simp); have c29 := o9.cell c2 (by simp); have H9 := LH o9; clear ew9 o9 c0 c2))
                    have HSE := LH (wsent_is (H8.out.2.1.of_only H9.out (fun b _ => by simp)))
                    have HBR := LH (ended_brought (H8.out.1.of_none H9.out))
                    have hxe := fun w t x => eql_in w t x
                    go_wp2_with (first | (go_at_call 19; go_loud (refine HSE.out.mono ?_; rintro e wa ⟨rfl, rfl⟩)) | (go_at_call 15; go_loud (refine HBR.out.mono ?_; rintro e wb ⟨rfl, rfl⟩)))
                    exact ⟨⟨q + 1, by omega, by go_num, H8.out.2.2.trans H9.out⟩, by simp [intOf]; omega⟩
            · have hr := rightE_len pe qi hc (by rw [HM.out.hm, HM.out.hn]; exact hl)
              have hrp : rightE pe qi ≠ 0 := by rw [hr]; omega
              rw [hc, errV_zero] at HC
              have hx := fun w => neq_nn w
              have hd : ((qn : Int) != (pn : Int)) = true := by simp; omega
              have HR := LH hrp
              clear hr hrp hc hl
              go_upto_region 14 with (go_at_call 17; go_loud (refine HC.out.mono ?_; rintro e w6 ⟨kk, rfl, o6⟩; have v0 := o6.cell p0 (by simp); have v1 := o6.cell p1 (by simp); have H6 := LH o6; clear o6 p0 p1))
              clear hx hd
              go_wp2_with fail
              go_loopw [16, 75] (fun s16 s75 wq => ∃ j : Nat, j ≤ pn ∧ s75 = .int .i64 j ∧ s16 = .bool true ∧ Only [] w6 wq) (fun _ s75 _ => pn - (intOf s75).toNat)
              case atStart => exact ⟨0, Nat.zero_le _, rfl, rfl, Only.refl _ _⟩
              case round =>
                obtain ⟨j, hj, rfl, rfl, oj⟩ := hrel
                replace v0 := oj.cell v0 (by simp)
                replace v1 := oj.cell v1 (by simp)
                by_cases hlj : j < pn
                · have HJ := LH oj
                  clear oj
                  go_upto_region 17 with fail
                  refine wp_region_held_drew (S := (fun w' => w'.cell? ⟨P, 0, none⟩ = some (.slice pa pn pc) ∧ w'.cell? ⟨P, 1, none⟩ = some (.slice qa qn qc))) (by kernel_rfl) (⟨v0, v1⟩) (fun hHeld => ?_)
                  refine wI 0 ?_
                  try simp only [Act.put, gs]
                  refine wI 1 ?_
                  try simp only [Act.put, gs]
                  refine wK 2 ?_
                  try simp only [Act.put, gs]
                  refine wK 3 ?_
                  try simp only [Act.put, gs]
                  refine wK 4 ?_
                  try simp only [Act.put, gs]
                  refine wK 5 ?_
                  try simp only [Act.put, gs]
                  refine wK 6 ?_
                  try simp only [Act.put, gs]
                  refine wK 7 ?_
                  try simp only [Act.put, gs]
                  refine wK 8 ?_
                  try simp only [Act.put, gs]
                  refine wK 9 ?_
                  try simp only [Act.put, gs]
                  refine wK 10 ?_
                  try simp only [Act.put, gs]
                  refine wK 11 ?_
                  try simp only [Act.put, gs]
                  refine wK 12 ?_
                  try simp only [Act.put, gs]
                  refine wK 13 ?_
                  try simp only [Act.put, gs]
                  refine wK 14 ?_
                  try simp only [Act.put, gs]
                  refine wI 15 ?_
                  try simp only [Act.put, gs]
                  refine wI 16 ?_
                  try simp only [Act.put, gs]
                  refine wK 17 ?_
                  try simp only [Act.put, gs]
                  refine wK 18 ?_
                  try simp only [Act.put, gs]
                  refine wK 19 ?_
                  try simp only [Act.put, gs]
                  refine wK 20 ?_
                  try simp only [Act.put, gs]
                  refine wK 21 ?_
                  try simp only [Act.put, gs]
                  refine wK 22 ?_
                  try simp only [Act.put, gs]
                  refine wK 23 ?_
                  try simp only [Act.put, gs]
                  refine wK 24 ?_
                  try simp only [Act.put, gs]
                  refine wK 25 ?_
                  try simp only [Act.put, gs]
                  refine wK 26 ?_
                  try simp only [Act.put, gs]
                  refine wK 27 ?_
                  try simp only [Act.put, gs]
                  refine wK 28 ?_
                  try simp only [Act.put, gs]
                  refine wK 29 ?_
                  try simp only [Act.put, gs]
                  refine wI 30 ?_
                  try simp only [Act.put, gs]
                  refine wI 31 ?_
                  try simp only [Act.put, gs]
                  refine wpAnyH_done (by kernel_rfl) ?_ _
                  clear hHeld
                  go_wp2_with fail
                  exact ⟨⟨j + 1, by omega, by go_num, rfl, HJ.out.drew⟩, by simp [intOf]; omega⟩
                · obtain rfl : pn = j := by omega
                  have kl : ¬ ((pn : Int) < (pn : Int)) := by omega
                  have HJ := LH oj
                  clear oj
                  go_upto_region 19 with fail
                  have HO := LH (fun wx (o : Only [] wr wx) => (((H5.out.2.of_none H6.out).of_none HJ.out).of_none o).of (((((H4.out.2.2.2.2.of_none HQ.out).of_none H5.out.1).of_none H6.out).of_none HJ.out).of_none o))
                  go_region_held3 (fun w' => w'.cell? ⟨P, 0, none⟩ = some (.slice pa pn pc) ∧ w'.cell? ⟨P, 1, none⟩ = some (.slice qa qn qc))
                    (first | exact ⟨v0, v1⟩ | exact ⟨o7.cell v0 (by simp), o7.cell v1 (by simp)⟩ | exact ⟨o8.cell (o7.cell v0 (by simp)) (by simp), o8.cell (o7.cell v1 (by simp)) (by simp)⟩ | go_keep)
                    ((first
                      | (go_at_call 8; go_loud (refine (never_config _).mono ?_; rintro e w7 ⟨rfl, o7⟩))
                      | (go_at_call 10; go_loud (refine (HO.out _ (((Only.refl [] wr).drew).trans o7)).mono ?_; rintro e w8 ⟨W, H, T, D, U, rfl, o8, hW, _, hbad⟩))))
                  rename_i hHeld
                  clear hHeld v0 v1
                  obtain ⟨hs8, hE9, _, fd, hwd, _⟩ := hbad HR.out
                  have c0 : w8.cell? ⟨W, 0, none⟩ = some (.pointer (some ⟨H, 0, none⟩)) := cell_at hs8 rfl
                  have c2 : w8.cell? ⟨W, 2, none⟩ = some (.pointer (some ⟨D, 0, none⟩)) := cell_at hs8 rfl
                  have HRN := LH (ended_run hs8 hE9)
                  rw [errV_pos (by have := HR.out; omega)] at HRN
                  have H8 := LH (AI hE9 (AI hwd ((((((HQ.out.trans H5.out.1).trans H6.out).trans HJ.out).trans (((Only.refl [] wr).drew).trans o7))).trans o8)))
                  clear hs8 hE9 hwd hbad hW o7 o8
                  go_upto_region 21 with (go_at_call 11; go_loud (refine HRN.out.mono ?_; rintro e w9 ⟨rfl, mm, ew9⟩; have o9 : Only [] w8 w9 := (by rw [ew9]; exact only_drewN [] w8 mm); have c09 := o9.cell c0 (by simp); have c29 := o9.cell c2 (by simp); have H9 := LH o9; clear ew9 o9 c0 c2))
                  have HSE := LH (wsent_is (H8.out.2.1.of_only H9.out (fun b _ => by simp)))
                  have HBR := LH (ended_brought (H8.out.1.of_none H9.out))
                  have hxe := fun w t x => eql_in w t x
                  go_wp2_with (first | (go_at_call 19; go_loud (refine HSE.out.mono ?_; rintro e wa ⟨rfl, rfl⟩)) | (go_at_call 15; go_loud (refine HBR.out.mono ?_; rintro e wb ⟨rfl, rfl⟩)))
                  exact ⟨⟨q + 1, by omega, by go_num, H8.out.2.2.trans H9.out⟩, by simp [intOf]; omega⟩
          · have hr := rightE_chk pe qi hc
            have hrp : rightE pe qi ≠ 0 := by rw [hr]; exact hc
            rw [errV_pos (by omega)] at HC
            have hx := fun w t x => neq_in w t x
            have HR := LH hrp
            clear hr hrp hc
            go_upto_region 14 with (go_at_call 17; go_loud (refine HC.out.mono ?_; rintro e w6 ⟨kk, rfl, o6⟩; have v0 := o6.cell p0 (by simp); have v1 := o6.cell p1 (by simp); have H6 := LH o6; clear o6 p0 p1))
            clear hx
            go_wp2_with fail
            go_loopw [16, 75] (fun s16 s75 wq => ∃ j : Nat, j ≤ pn ∧ s75 = .int .i64 j ∧ s16 = .bool true ∧ Only [] w6 wq) (fun _ s75 _ => pn - (intOf s75).toNat)
            case atStart => exact ⟨0, Nat.zero_le _, rfl, rfl, Only.refl _ _⟩
            case round =>
              obtain ⟨j, hj, rfl, rfl, oj⟩ := hrel
              replace v0 := oj.cell v0 (by simp)
              replace v1 := oj.cell v1 (by simp)
              by_cases hlj : j < pn
              · have HJ := LH oj
                clear oj
                go_upto_region 17 with fail
                refine wp_region_held_drew (S := (fun w' => w'.cell? ⟨P, 0, none⟩ = some (.slice pa pn pc) ∧ w'.cell? ⟨P, 1, none⟩ = some (.slice qa qn qc))) (by kernel_rfl) (⟨v0, v1⟩) (fun hHeld => ?_)
                refine wI 0 ?_
                try simp only [Act.put, gs]
                refine wI 1 ?_
                try simp only [Act.put, gs]
                refine wK 2 ?_
                try simp only [Act.put, gs]
                refine wK 3 ?_
                try simp only [Act.put, gs]
                refine wK 4 ?_
                try simp only [Act.put, gs]
                refine wK 5 ?_
                try simp only [Act.put, gs]
                refine wK 6 ?_
                try simp only [Act.put, gs]
                refine wK 7 ?_
                try simp only [Act.put, gs]
                refine wK 8 ?_
                try simp only [Act.put, gs]
                refine wK 9 ?_
                try simp only [Act.put, gs]
                refine wK 10 ?_
                try simp only [Act.put, gs]
                refine wK 11 ?_
                try simp only [Act.put, gs]
                refine wK 12 ?_
                try simp only [Act.put, gs]
                refine wK 13 ?_
                try simp only [Act.put, gs]
                refine wK 14 ?_
                try simp only [Act.put, gs]
                refine wI 15 ?_
                try simp only [Act.put, gs]
                refine wI 16 ?_
                try simp only [Act.put, gs]
                refine wK 17 ?_
                try simp only [Act.put, gs]
                refine wK 18 ?_
                try simp only [Act.put, gs]
                refine wK 19 ?_
                try simp only [Act.put, gs]
                refine wK 20 ?_
                try simp only [Act.put, gs]
                refine wK 21 ?_
                try simp only [Act.put, gs]
                refine wK 22 ?_
                try simp only [Act.put, gs]
                refine wK 23 ?_
                try simp only [Act.put, gs]
                refine wK 24 ?_
                try simp only [Act.put, gs]
                refine wK 25 ?_
                try simp only [Act.put, gs]
                refine wK 26 ?_
                try simp only [Act.put, gs]
                refine wK 27 ?_
                try simp only [Act.put, gs]
                refine wK 28 ?_
                try simp only [Act.put, gs]
                refine wK 29 ?_
                try simp only [Act.put, gs]
                refine wI 30 ?_
                try simp only [Act.put, gs]
                refine wI 31 ?_
                try simp only [Act.put, gs]
                refine wpAnyH_done (by kernel_rfl) ?_ _
                clear hHeld
                go_wp2_with fail
                exact ⟨⟨j + 1, by omega, by go_num, rfl, HJ.out.drew⟩, by simp [intOf]; omega⟩
              · obtain rfl : pn = j := by omega
                have kl : ¬ ((pn : Int) < (pn : Int)) := by omega
                have HJ := LH oj
                clear oj
                go_upto_region 19 with fail
                have HO := LH (fun wx (o : Only [] wr wx) => (((H5.out.2.of_none H6.out).of_none HJ.out).of_none o).of (((((H4.out.2.2.2.2.of_none HQ.out).of_none H5.out.1).of_none H6.out).of_none HJ.out).of_none o))
                go_region_held3 (fun w' => w'.cell? ⟨P, 0, none⟩ = some (.slice pa pn pc) ∧ w'.cell? ⟨P, 1, none⟩ = some (.slice qa qn qc))
                  (first | exact ⟨v0, v1⟩ | exact ⟨o7.cell v0 (by simp), o7.cell v1 (by simp)⟩ | exact ⟨o8.cell (o7.cell v0 (by simp)) (by simp), o8.cell (o7.cell v1 (by simp)) (by simp)⟩ | go_keep)
                  ((first
                    | (go_at_call 8; go_loud (refine (never_config _).mono ?_; rintro e w7 ⟨rfl, o7⟩))
                    | (go_at_call 10; go_loud (refine (HO.out _ (((Only.refl [] wr).drew).trans o7)).mono ?_; rintro e w8 ⟨W, H, T, D, U, rfl, o8, hW, _, hbad⟩))))
                rename_i hHeld
                clear hHeld v0 v1
                obtain ⟨hs8, hE9, _, fd, hwd, _⟩ := hbad HR.out
                have c0 : w8.cell? ⟨W, 0, none⟩ = some (.pointer (some ⟨H, 0, none⟩)) := cell_at hs8 rfl
                have c2 : w8.cell? ⟨W, 2, none⟩ = some (.pointer (some ⟨D, 0, none⟩)) := cell_at hs8 rfl
                have HRN := LH (ended_run hs8 hE9)
                rw [errV_pos (by have := HR.out; omega)] at HRN
                have H8 := LH (AI hE9 (AI hwd ((((((HQ.out.trans H5.out.1).trans H6.out).trans HJ.out).trans (((Only.refl [] wr).drew).trans o7))).trans o8)))
                clear hs8 hE9 hwd hbad hW o7 o8
                go_upto_region 21 with (go_at_call 11; go_loud (refine HRN.out.mono ?_; rintro e w9 ⟨rfl, mm, ew9⟩; have o9 : Only [] w8 w9 := (by rw [ew9]; exact only_drewN [] w8 mm); have c09 := o9.cell c0 (by simp); have c29 := o9.cell c2 (by simp); have H9 := LH o9; clear ew9 o9 c0 c2))
                have HSE := LH (wsent_is (H8.out.2.1.of_only H9.out (fun b _ => by simp)))
                have HBR := LH (ended_brought (H8.out.1.of_none H9.out))
                have hxe := fun w t x => eql_in w t x
                go_wp2_with (first | (go_at_call 19; go_loud (refine HSE.out.mono ?_; rintro e wa ⟨rfl, rfl⟩)) | (go_at_call 15; go_loud (refine HBR.out.mono ?_; rintro e wb ⟨rfl, rfl⟩)))
                exact ⟨⟨q + 1, by omega, by go_num, H8.out.2.2.trans H9.out⟩, by simp [intOf]; omega⟩
        · obtain rfl : q = 2 := by omega
          have kl : ¬ ((2 : Int) < (2 : Int)) := by omega
          have HQ := LH oq
          clear oq
          go_wp2_with fail
          go_ret
          exact ⟨rfl, H4.out.2.2.2.1.trans HQ.out⟩
end Go.Proofs.YtplaamfoeaaaiaaGreatDoor

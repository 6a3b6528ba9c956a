/- The chapter's example of books as bytes. -/
import Derived.Test.YtolbmemogoojhaaGreatKCanG
namespace Go.Proofs.YtolbmemogoojhaaGreat
open Go Go.RowKit Go.Deep
set_option linter.unusedVariables false
set_option linter.unusedSimpArgs false
set_option maxRecDepth 100000
theorem cnput_v {va : Value} {L : BK} {m : Bool} {bs : List UInt8} (hm : bMay L = m) (hb : bPutP L = bs) (w : World) (hv : Recs w va L) : Calls Tryz.prog 39 #[.agg #[va]] w fun e w' => ∃ v, e = .returned (.tuple #[v, .bool m]) ∧ St w w' [Res.row 5 1 v bs.length (encU bs)] := by
  subst hm hb
  exact cnput_c va L w hv
theorem cndigest_v {va : Value} {L : BK} {bs : List UInt8} {D : Array Value} (hb : bPutP L = bs) (hD : (encU (dig bs)).toArray = D) (w : World) (hv : Recs w va L) : Calls Tryz.prog 43 #[.agg #[va]] w fun e w' => e = .returned (.agg D) ∧ Below w.heap.size w w' := by
  subst hb hD
  exact cndigest_c va L w hv
theorem sum_v {v : Value} {bs : List UInt8} {D : Array Value} (hl : bs.length ≤ 80000) (hD : (encU (dig bs)).toArray = D) (w : World) (hv : Byt w v bs) : Calls Tryz.prog 69 #[v] w fun e w' => e = .returned (.agg D) ∧ Below w.heap.size w w' := by
  subst hD
  exact sum_c v bs hl w hv
theorem byt_head1 {w : World} {v : Value} {bs : List UInt8} {n : Nat} (h : Byt w v bs) (hn : bs.length = n) (h0 : 0 < n) : ∃ b off c, v = .slice (some ⟨b, off, none⟩) n c ∧ Sub w b off (encU bs).toArray := by
  subst hn
  exact byt_head h h0
theorem byt_at0 {w : World} {b off n c : Nat} {x : UInt8} {t : List UInt8} (h : Byt w (.slice (some ⟨b, off, none⟩) n c) (x :: t)) : Sub w b off #[.int .u8 (x.toNat : Int)] := by
  obtain ⟨b', off', c', he, hs⟩ := byt_head h (by simp)
  injection he with e1 e2 e3
  simp only [Option.some.injEq, Addr.mk.injEq, and_true] at e1
  obtain ⟨rfl, rfl⟩ := e1
  exact fun j u hj => hs j u (by
    match j, hj with
    | 0, hj => simpa [encU] using hj)
theorem dg_same (D : List UInt8) (h : D.length = 32) (W : World) : (binOp .eql 64 (.agg (encU D).toArray) (.agg (encU D).toArray)).run Tryz.prog W = .ok (.bool true) W := by
  rw [run_eql_struct]
  have := run_equalIn_bytes (P := Tryz.prog) W 9998 64 5 32 (by kernel_rfl) (by kernel_rfl) (fun w => by simp [sizeOf, typeInfo]; kernel_rfl) D D h h
  have e : ∀ l : List UInt8, encU l = l.map Extern.Stop.cell := fun l => rfl
  rw [e, this]
  simp
theorem dig_len (bs : List UInt8) : (dig bs).length = 32 := by simp [dig, outs_length]
theorem aw8m0 : bMay [] = true := rfl
theorem aw8p0 : bPutP [] = [0] := by rw [bPutP_yes aw8m0]; unfold bBytes; rw [putL_small (by decide)]; rfl
theorem aw8px : bPutP [aw71] = bBytes [aw71] := bPutP_yes aw7Mb1
theorem aw8st (N R : Int) (h : stMay N R = true) (h2 : (8 * N + R).toNat < 128) : (stBytes N R).length = 1 := by
  unfold stBytes
  rw [if_pos h, putL_small h2]; rfl
theorem aw8len : (bBytes [aw71]).length = 23 := by
  have h1 := aw8st 0 0 (by decide) (by decide)
  have h2 := aw8st 1 1 (by decide) (by decide)
  have h3 : cMay 1 1 ⟨#[120]⟩ = true := by decide +kernel
  have h4 : (cBytes 1 1 ⟨#[120]⟩).length = 3 := by
    unfold cBytes
    rw [if_pos h3, List.length_append, h2]
    unfold textL
    rw [show (⟨#[120]⟩ : ByteArray).size = 1 from rfl, putL_small (by decide)]; rfl
  unfold bBytes
  rw [show ([aw71] : BK).length = 1 from rfl, putL_small (by decide), List.length_append]
  show 1 + (List.flatMap rBytes [aw71]).length = 23
  rw [List.flatMap_cons, List.flatMap_nil, List.append_nil]
  unfold rBytes
  rw [List.length_append, List.length_append, List.length_append, show aw71.f.length = 1 from rfl, putL_small (by decide)]
  show 1 + (16 + ((stBytes 0 0).length + (1 + _))) = 23
  rw [h1]
  show 1 + (16 + (1 + (1 + ((fBytes (2, 1, 1, ⟨#[120]⟩) ++ []).length)))) = 23
  rw [List.append_nil]
  unfold fBytes
  rw [List.length_cons]
  show 1 + (16 + (1 + (1 + ((cBytes 1 1 ⟨#[120]⟩).length + 1)))) = 23
  rw [h4]
theorem aw8get : gBook (bBytes [aw71]) = some [aw71] := gBook_back aw7Mb1 fun r hr => by rw [List.mem_singleton.1 hr]; exact aw71_ok
set_option maxHeartbeats 6400000 in
theorem awake8_c (w : World) : Calls Tryz.prog 38 #[] w fun e w' => e = .returned (.bool true) ∧ Below w.heap.size w w' := by
  have HW := Lib.hid aw7W; have HMx := Lib.hid aw7Mb1
  have HS : Hid (bSame [aw71] [aw71] = true) := Lib.hid ((bSame_iff _ _).2 rfl)
  obtain ⟨bs, hbs⟩ : ∃ bs, bBytes [aw71] = bs := ⟨_, rfl⟩
  have HPx : Hid (bPutP [aw71] = bs) := Lib.hid (by rw [aw8px, hbs])
  have HL23 : Hid (bs.length = 23) := Lib.hid (by rw [← hbs]; exact aw8len)
  have HL80 : Hid (bs.length ≤ 80000) := Lib.hid (by rw [HL23.out]; decide)
  have HG : Hid (gBook bs = some [aw71]) := Lib.hid (by rw [← hbs]; exact aw8get)
  clear hbs
  obtain ⟨D, hD⟩ : ∃ D, (encU (dig bs)).toArray = D := ⟨_, rfl⟩
  have heq : ∀ W, (binOp .eql 64 (.agg D) (.agg D)).run Tryz.prog W = .ok (.bool true) W := fun W => by rw [← hD]; exact dg_same _ (dig_len _) W
  have HD := Lib.hid hD; clear hD
  have H := St.init w
  go_enter Tryz.func38, Tryz.ntmps38
  go_wp2_with (first | go_skip | ((fail_if_success have := kx); (with_reducible apply al_bk H); clear H; intro wn kx H) | ((fail_if_success have := ky); (with_reducible apply al_bk H); clear H; intro wn ky H) | ((with_reducible apply st_bk H); rfl; rfl; rfl; (repeat (first | with_reducible apply Upd.head | with_reducible apply Upd.tail)); (first | rfl | assumption | (refine Hid.out ?_; assumption)); clear H; intro wn H) | ((with_reducible apply ld_bk); rfl; rfl; (focus (apply H.one; (repeat (first | with_reducible exact mH | with_reducible apply mT)); done))) | (with_reducible apply bd_bk0) | ((with_reducible apply bd_id7); rfl) | (go_at_call 39; (fail_if_success have := Tvb); (with_reducible refine (cnput_v aw8m0 aw8p0 _ (Recs.nil _)).mono ?_); rintro e wn ⟨vb, rfl, hs⟩; have Tvb := Lib.hid True.intro; replace H := H.comp hs; clear hs; simp only [List.cons_append, List.nil_append] at H; obtain ⟨pb, po, pc, rfl, -⟩ := byt_head1 (n := 1) (H.byt8 (v := vb) (bs := [0]) (by (repeat (first | with_reducible exact mH | with_reducible apply mT)))) rfl Nat.one_pos) | (go_at_call 22; (fail_if_success have := Tx); (with_reducible refine (bkwrite_k HW.out _ (Recs.nil _)).mono ?_); rintro e wn ⟨vx, rx, rfl, hrj, hs⟩; replace H := H.comp hs; clear hs; simp only [List.cons_append, List.nil_append] at H; have Tx : Hid (vx.oneCell' = true) := Lib.hid (hrj _ (H.get (r := rx) (by (repeat (first | with_reducible exact mH | with_reducible apply mT))))).one; have Jx := Lib.hid hrj; clear hrj) | (go_at_call 39; (fail_if_success have := Tvc); (with_reducible refine (cnput_v HMx.out HPx.out _ (Jx.out _ (H.get (r := rx) (by (repeat (first | with_reducible exact mH | with_reducible apply mT)))))).mono ?_); rintro e wn ⟨vc, rfl, hs⟩; have Tvc := Lib.hid True.intro; replace H := H.comp hs; clear hs; simp only [List.cons_append, List.nil_append] at H; obtain ⟨cb, co, cc, rfl, -⟩ := byt_head1 (n := 23) (H.byt8 (v := vc) (bs := bs) (by (repeat (first | with_reducible exact mH | with_reducible apply mT)))) HL23.out (by decide)) | (go_at_call 41; (fail_if_success have := Ty); (with_reducible refine (cnget_y HG.out (H.byt8 (by (repeat (first | with_reducible exact mH | with_reducible apply mT))))).mono ?_); rintro e wn ⟨vy, ry, rfl, hrj, hs⟩; replace H := H.comp hs; clear hs; simp only [List.cons_append, List.nil_append] at H; have Ty : Hid (vy.oneCell' = true) := Lib.hid (hrj _ (H.get (r := ry) (by (repeat (first | with_reducible exact mH | with_reducible apply mT))))).one; have Jy := Lib.hid hrj; clear hrj) | ((with_reducible refine ld_one (ty := 5) Tryz.underlying5 rfl ?_ ?_ (byt_at0 (H.byt8 (bs := [0]) (by (repeat (first | with_reducible exact mH | with_reducible apply mT))))) ?_); rfl; rfl) | (go_at_call 19; (with_reducible refine (bksame_v HS.out _ (Jx.out _ (H.get (r := rx) (by (repeat (first | with_reducible exact mH | with_reducible apply mT))))) (Jy.out _ (H.get (r := ry) (by (repeat (first | with_reducible exact mH | with_reducible apply mT)))))).mono ?_); rintro e wn ⟨rfl, hb⟩; replace H := H.call hb; clear hb) | (go_at_call 43; (with_reducible refine (cndigest_v HPx.out HD.out _ (Jx.out _ (H.get (r := rx) (by (repeat (first | with_reducible exact mH | with_reducible apply mT)))))).mono ?_); rintro e wn ⟨rfl, hb⟩; replace H := H.call hb; clear hb) | (go_at_call 69; (with_reducible refine (sum_v HL80.out HD.out _ (H.byt8 (by (repeat (first | with_reducible exact mH | with_reducible apply mT))))).mono ?_); rintro e wn ⟨rfl, hb⟩; replace H := H.call hb; clear hb))
  all_goals first | (rw [Exit.noGoto_ret]; go_ret) | go_ret
  all_goals exact ⟨rfl, H.bel⟩
end Go.Proofs.YtolbmemogoojhaaGreat

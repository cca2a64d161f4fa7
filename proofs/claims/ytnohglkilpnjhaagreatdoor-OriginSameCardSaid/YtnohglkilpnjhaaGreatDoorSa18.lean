/- Lemmas that the statement of this claim leans on; their own comments are taken out, for the size of the claim. No condition beyond what each lemma states. -/
import Derived.Test.YtnohglkilpnjhaaGreatDoorSa17
import Derived.Deep.DeepCutAuto
import Derived.Deep.Cut
import Derived.Deep.QuietTactic
import Derived.BigQuiet
set_option linter.unusedVariables false
set_option linter.unusedSimpArgs false
set_option linter.unusedSectionVars false
namespace Go.Proofs.YtnohglkilpnjhaaGreatDoor
open Go.RowKit
set_option maxRecDepth 100000
theorem odd_any (n:Int) (w:World):Calls Tryz.prog 127 #[.int .i64 n] w fun e w'=>e = .returned (.bool (!idB n))∧w = w':=by
 obtain ⟨B,hB⟩:∃ B,idB n = B:=⟨_,rfl⟩
 have hI:=wwithin_any n 1 65536 w
 rw [show withinB n 1 65536 = idB n from rfl,hB] at hI
 rw [hB]
 clear hB
 go_enter Tryz.func127,Tryz.ntmps127
 go_wp2_with fail
 refine hI.mono ?_
 rintro e w1 ⟨rfl,rfl⟩
 go_wp2
 go_ret
 exact ⟨rfl,rfl⟩
set_option maxHeartbeats 1600000 in
theorem oddMember_any (x:MemL) (g:Nat) (w:World) (hg:w.cell? ⟨g,0,none⟩ = some (.func (.func 127) #[] #[])) :
  Calls Tryz.prog 129 #[.agg #[.int .i64 x.id,.int .i64 x.inc,.int .i64 x.state,.int .i64 x.since],.pointer (some ⟨g,0,none⟩)] w fun e w'=>e = .returned (.bool (!memB0 x))∧Below w.heap.size w w':=by
 have hgl:=World.block_lt_of_cell? _ _ hg
 have hgl:g < w.heap.size:=hgl
 have i1:=fun w'=>odd_any x.id w'
 have i2:=fun w'=>wwithin_any x.inc 0 1073741824 w'
 have i3:=fun w'=>wwithin_any x.state 1 3 w'
 have he:memB0 x = (idB x.id && withinB x.inc 0 1073741824 && withinB x.state 1 3 && decide (x.since = 0)):=rfl
 rw [he]
 clear he
 have hb:Below w.heap.size w (w.alloc (.cells #[.int .i64 x.id,.int .i64 x.inc,.int .i64 x.state,.int .i64 x.since] 113)):=(Below.refl _ _).alloc (Nat.le_refl _) _
 obtain ⟨xi,xj,xs,xt⟩:=x
 dsimp only at *
 generalize idB xi = A at *
 generalize withinB xj 0 1073741824 = B at *
 generalize withinB xs 1 3 = C at *
 cases A
 ·go_enter Tryz.func129,Tryz.ntmps129
  go_wp2_with (first | (go_at_call 127;refine (i1 _).mono ?_;rintro e w2 ⟨rfl,rfl⟩))
  go_ret
  exact ⟨rfl,hb⟩
 cases B
 ·go_enter Tryz.func129,Tryz.ntmps129
  go_wp2_with (first | (go_at_call 127;refine (i1 _).mono ?_;rintro e w2 ⟨rfl,rfl⟩) | (go_at_call 128;refine (i2 _).mono ?_;rintro e w2 ⟨rfl,rfl⟩))
  go_ret
  exact ⟨rfl,hb⟩
 cases C
 ·go_enter Tryz.func129,Tryz.ntmps129
  go_wp2_with (first | (go_at_call 127;refine (i1 _).mono ?_;rintro e w2 ⟨rfl,rfl⟩) | (go_at_call 128;with_reducible refine (i2 _).mono ?_;rintro e w2 ⟨rfl,rfl⟩) | (go_at_call 128;with_reducible refine (i3 _).mono ?_;rintro e w2 ⟨rfl,rfl⟩))
  go_ret
  exact ⟨rfl,hb⟩
 ·by_cases ht:xt = 0
  ·subst ht
   go_enter Tryz.func129,Tryz.ntmps129
   go_wp2_with (first | (go_at_call 127;refine (i1 _).mono ?_;rintro e w2 ⟨rfl,rfl⟩) | (go_at_call 128;with_reducible refine (i2 _).mono ?_;rintro e w2 ⟨rfl,rfl⟩) | (go_at_call 128;with_reducible refine (i3 _).mono ?_;rintro e w2 ⟨rfl,rfl⟩))
   go_ret
   exact ⟨rfl,hb⟩
  ·have t:(xt != 0) = true:=by simp [ht]
   rw [decide_eq_false ht]
   clear ht
   go_enter Tryz.func129,Tryz.ntmps129
   go_wp2_with (first | (go_at_call 127;refine (i1 _).mono ?_;rintro e w2 ⟨rfl,rfl⟩) | (go_at_call 128;with_reducible refine (i2 _).mono ?_;rintro e w2 ⟨rfl,rfl⟩) | (go_at_call 128;with_reducible refine (i3 _).mono ?_;rintro e w2 ⟨rfl,rfl⟩))
   go_ret
   exact ⟨rfl,hb⟩
set_option maxHeartbeats 1600000 in
theorem IndexFunc_any (v:Value) (l:List Int) (w:World) (hl:Ints w v l):Calls Tryz.prog 166 #[v,.func (.func 127) #[] #[]] w (IdxPost w (!l.all idB)):=by
 obtain ⟨a,c,hv⟩:=hl.len
 subst hv
 have hle:=hl.le
 have HL:=Lib.hid hl
 clear hl
 go_enter Tryz.func166,Tryz.ntmps166
 go_wp2
 go_loop [5,8] (fun _ iv=>∃ k:Nat,k ≤ l.length∧iv = .int .i64 k∧l.all idB = (l.drop k).all idB) (fun _ iv=>l.length - (intOf iv).toNat)
 case atStart=>exact ⟨0,Nat.zero_le _,rfl,rfl⟩
 case round=>
  obtain ⟨k,hk,rfl,hm⟩:=hrel
  by_cases hlt:k < l.length
  ·obtain ⟨b,off,c',hv,hbl,hc⟩:=HL.out.cell (by omega)
   obtain ⟨rfl,rfl⟩:a = some ⟨b,off,none⟩∧c = c':=by cases hv;exact ⟨rfl,rfl⟩
   replace hc:=hc k hlt
   rw [drop_int hlt,List.all_cons] at hm
   generalize l.getD k 0 = y at *
   have hO:=fun w'=>odd_any y w'
   generalize idB y = B at *
   have HM:=Lib.hid hm
   clear hv hm
   cases B with
   | false=>
    go_wp2_with (first | (go_at_call 127;refine (hO _).mono ?_;rintro e w2 ⟨rfl,rfl⟩))
    go_ret
    exact ⟨(k:Int),rfl,by rw [decide_eq_true (show (0:Int) ≤ (k:Int) by omega),HM.out];rfl,Below.refl _ _⟩
   | true=>
    go_wp2_with (first | (go_at_call 127;refine (hO _).mono ?_;rintro e w2 ⟨rfl,rfl⟩))
    go_round
    case rel=>exact ⟨k + 1,by omega,by go_num,by rw [HM.out];rfl⟩
    case measure=>simp [intOf];omega
  ·rw [List.drop_of_length_le (by omega)] at hm
   have HM:=Lib.hid hm
   clear hm
   go_wp2
   go_ret
   exact ⟨-1,rfl,by rw [decide_eq_false (by omega),HM.out];rfl,Below.refl _ _⟩
theorem ContainsFunc_any (v:Value) (l:List Int) (w:World) (hl:Ints w v l):Calls Tryz.prog 130 #[v,.func (.func 127) #[] #[]] w fun e w'=>e = .returned (.bool (!l.all idB))∧Below w.heap.size w w':=by
 obtain ⟨B,hB⟩:∃ B,(!l.all idB) = B:=⟨_,rfl⟩
 have hI:=IndexFunc_any v l w hl
 rw [hB] at hI ⊢
 clear hB
 go_enter Tryz.func130,Tryz.ntmps130
 go_wp2_with fail
 refine hI.mono ?_
 rintro e w1 ⟨r,rfl,hr,hb⟩
 have HR:=Lib.hid hr
 clear hr
 go_wp2
 go_ret
 exact ⟨ret_bool HR.out,hb⟩
set_option maxHeartbeats 1600000 in
theorem IndexFuncM_any (v:Value) (l:List MemL) (g:Nat) (w:World) (hl:Mems w v l) (hg:w.cell? ⟨g,0,none⟩ = some (.func (.func 127) #[] #[])) :
  Calls Tryz.prog 167 #[v,.func (.func 129) #[] #[.pointer (some ⟨g,0,none⟩)]] w (IdxPost w (!l.all memB0)):=by
 obtain ⟨a,c,hv⟩:=hl.len
 subst hv
 have hle:=hl.le
 have HL:=Lib.hid hl
 have HG:=Lib.hid hg
 have hgl:g < w.heap.size:=World.block_lt_of_cell? _ _ hg
 clear hl hg
 go_enter Tryz.func167,Tryz.ntmps167
 go_wp2
 go_loopw [5,8] (fun _ iv W=>∃ k:Nat,k ≤ l.length∧iv = .int .i64 k∧l.all memB0 = (l.drop k).all memB0∧Below w.heap.size w W) (fun _ iv _=>l.length - (intOf iv).toNat)
 case atStart=>exact ⟨0,Nat.zero_le _,rfl,rfl,Below.refl _ _⟩
 case round=>
  obtain ⟨k,hk,rfl,hm,hb⟩:=hrel
  by_cases hlt:k < l.length
  ·obtain ⟨b,off,c',hv,hbl,hc⟩:=HL.out.cell (by omega)
   obtain ⟨rfl,rfl⟩:a = some ⟨b,off,none⟩∧c = c':=by cases hv;exact ⟨rfl,rfl⟩
   replace hc:=(hc k hlt).of_new hb
   rw [drop_mem hlt,List.all_cons] at hm
   generalize l.getD k mem0 = y at *
   have hO:=oddMember_any y g wr ((hb.cell (p:=⟨g,0,none⟩) hgl).trans HG.out)
   generalize memB0 y = B at *
   obtain ⟨c0,c1,c2,c3⟩:=hc
   have HM:=Lib.hid hm
   clear hv hm
   cases B with
   | false=>
    go_wp2_with (first | (go_at_call 129;refine hO.mono ?_;rintro e w2 ⟨rfl,hb2⟩))
    go_ret
    exact ⟨(k:Int),rfl,by rw [decide_eq_true (show (0:Int) ≤ (k:Int) by omega),HM.out];rfl,below_next hb hb2⟩
   | true=>
    go_wp2_with (first | (go_at_call 129;refine hO.mono ?_;rintro e w2 ⟨rfl,hb2⟩))
    go_roundw
    case rel=>exact ⟨k + 1,by omega,by go_num,by rw [HM.out];rfl,below_next hb hb2⟩
    case measure=>simp [intOf];omega
  ·rw [List.drop_of_length_le (by omega)] at hm
   have HM:=Lib.hid hm
   clear hm
   go_wp2
   go_ret
   exact ⟨-1,rfl,by rw [decide_eq_false (by omega),HM.out];rfl,hb⟩
theorem ContainsFuncM_any (v:Value) (l:List MemL) (g:Nat) (w:World) (hl:Mems w v l) (hg:w.cell? ⟨g,0,none⟩ = some (.func (.func 127) #[] #[])) :
  Calls Tryz.prog 132 #[v,.func (.func 129) #[] #[.pointer (some ⟨g,0,none⟩)]] w fun e w'=>e = .returned (.bool (!l.all memB0))∧Below w.heap.size w w':=by
 obtain ⟨B,hB⟩:∃ B,(!l.all memB0) = B:=⟨_,rfl⟩
 have hI:=IndexFuncM_any v l g w hl hg
 rw [hB] at hI ⊢
 clear hB
 go_enter Tryz.func132,Tryz.ntmps132
 go_wp2_with fail
 refine hI.mono ?_
 rintro e w1 ⟨r,rfl,hr,hb⟩
 have HR:=Lib.hid hr
 clear hr
 go_wp2
 go_ret
 exact ⟨ret_bool HR.out,hb⟩
theorem msg_boxed (w:World) {m:MsgL} {s:MsgS} (h:m.hash.length = 32):∃ W,w.alloc (.cells (msgCells m s).toArray 37) = W∧MsgO W w.heap.size m s∧Below w.heap.size w W:=
 ⟨_,rfl,msg_alloc w h,(Below.refl _ w).alloc (Nat.le_refl _) _⟩
theorem eqz (n:Nat):((n:Int) == 0) = decide (n = 0):=by
 rw [Bool.eq_iff_iff];simp
set_option maxHeartbeats 3200000 in
theorem bare_any (m:MsgL) (s:MsgS) (i:Int) (w:World) (hm:MsgR w m s) (h1:1 ≤ i) (h2:i ≤ 8) :
  Calls Tryz.prog 81 #[MsgV m s,.int .i64 i] w fun e w'=>e = .returned (.bool (bareB m i))∧Below w.heap.size w w':=by
 obtain ⟨W,hW,ho,hb⟩:=msg_boxed w (s:=s) hm.hash
 rw [show MsgV m s = .agg (msgCells m s).toArray from rfl]
 obtain ⟨ai,ci,hi⟩:=hm.ids.len
 obtain ⟨ab,cb,hby⟩:=hm.bytes.len
 obtain ⟨ap,cp,hp⟩:=hm.proof.len
 obtain ⟨am,cm,hme⟩:=hm.members.len
 have e2:=ho.hash
 have e3:=ho.piece
 have e4:=ho.ids
 have e5:=ho.bytes
 have e6:=ho.proof
 have e7:=ho.members
 have e8:=ho.seed
 rw [hi] at e4
 rw [hby] at e5
 rw [hp] at e6
 rw [hme] at e7
 have h32:=hm.hash
 have hgd:=guard_dig
 have heq:=run_eql_dig m.hash zero32 h32 rfl
 rw [show (List.map B8 zero32).toArray = #[.int .u8 0,.int .u8 0,.int .u8 0,.int .u8 0,.int .u8 0,.int .u8 0,.int .u8 0,.int .u8 0,.int .u8 0,.int .u8 0,.int .u8 0,.int .u8 0,.int .u8 0,.int .u8 0,.int .u8 0,.int .u8 0,.int .u8 0,.int .u8 0,.int .u8 0,.int .u8 0,.int .u8 0,.int .u8 0,.int .u8 0,.int .u8 0,.int .u8 0,.int .u8 0,.int .u8 0,.int .u8 0,.int .u8 0,.int .u8 0,.int .u8 0,.int .u8 0] from rfl] at heq
 have HW:=Lib.hid hW
 clear hW hm hi hby hp hme h32 ho
 rcases (show i = 1∨i = 2∨i = 3∨i = 4∨i = 5∨i = 6∨i = 7∨i = 8 by omega) with rfl | rfl | rfl | rfl | rfl | rfl | rfl | rfl
 ·clear e2 e3 e4 e5 e6 e7 e8 heq
  go_enter Tryz.func81,Tryz.ntmps81
  go_wp2
  go_ret
  rw [HW.out]
  exact ⟨rfl,hb⟩
 ·clear e3 e4 e5 e6 e7 e8
  rw [show bareB m 2 = decide (m.hash = zero32) from rfl]
  generalize decide (m.hash = zero32) = z at *
  generalize m.hash = h at *
  go_enter Tryz.func81,Tryz.ntmps81
  go_upto_region 5 with (fail)
  rw [HW.out]
  go_wp2_with (first | ((with_reducible apply wpList_load_at (ty:=31) (x:=.tmp _));rfl;rfl;rfl;assumption))
  go_ret
  exact ⟨rfl,hb⟩
 ·clear e2 e4 e5 e6 e7 e8 heq
  rw [show bareB m 3 = decide (m.piece = 0) from rfl]
  have hd:decide (m.piece = 0) = (m.piece == 0):=rfl
  rw [hd]
  generalize m.piece = n at *
  clear hd
  go_enter Tryz.func81,Tryz.ntmps81
  go_upto_region 7 with (fail)
  rw [HW.out]
  go_wp2
  go_ret
  exact ⟨rfl,hb⟩
 ·clear e2 e3 e5 e6 e7 e8 heq
  rw [show bareB m 4 = decide (m.ids.length = 0) from rfl,← eqz]
  generalize m.ids.length = n at *
  go_enter Tryz.func81,Tryz.ntmps81
  go_upto_region 9 with (fail)
  rw [HW.out]
  go_wp2
  go_ret
  exact ⟨rfl,hb⟩
 ·clear e2 e3 e4 e6 e7 e8 heq
  rw [show bareB m 5 = decide (m.bytes.length = 0) from rfl,← eqz]
  generalize m.bytes.length = n at *
  go_enter Tryz.func81,Tryz.ntmps81
  go_upto_region 11 with (fail)
  rw [HW.out]
  go_wp2
  go_ret
  exact ⟨rfl,hb⟩
 ·clear e2 e3 e4 e5 e7 e8 heq
  rw [show bareB m 6 = decide (m.proof.length = 0) from rfl,← eqz]
  generalize m.proof.length = n at *
  go_enter Tryz.func81,Tryz.ntmps81
  go_upto_region 13 with (fail)
  rw [HW.out]
  go_wp2
  go_ret
  exact ⟨rfl,hb⟩
 ·clear e2 e3 e4 e5 e6 e8 heq
  rw [show bareB m 7 = decide (m.members.length = 0) from rfl,← eqz]
  generalize m.members.length = n at *
  go_enter Tryz.func81,Tryz.ntmps81
  go_upto_region 15 with (fail)
  rw [HW.out]
  go_wp2
  go_ret
  exact ⟨rfl,hb⟩
 ·clear e2 e3 e4 e5 e6 e7 heq
  rw [show bareB m 8 = !m.seed from rfl]
  generalize m.seed = n at *
  go_enter Tryz.func81,Tryz.ntmps81
  go_upto_region 16 with (fail)
  rw [HW.out]
  go_wp2
  go_ret
  exact ⟨rfl,hb⟩
set_option maxHeartbeats 3200000 in
theorem fits_any (m:MsgL) (s:MsgS) (i:Int) (w:World) (hm:MsgR w m s) (h1:1 ≤ i) (h2:i ≤ 8) :
  Calls Tryz.prog 80 #[MsgV m s,.int .i64 i] w fun e w'=>e = .returned (.bool (fitsB m i))∧Below w.heap.size w w':=by
 obtain ⟨W,hW,ho,hb⟩:=msg_boxed w (s:=s) hm.hash
 rw [show MsgV m s = .agg (msgCells m s).toArray from rfl]
 have hmW:=hm.of_new hb
 have hi:=hmW.ids
 have hme:=hmW.members
 obtain ⟨ai,ci,hvi⟩:=hi.len
 obtain ⟨ab,cb,hvb⟩:=hm.bytes.len
 obtain ⟨ap,cp,hvp⟩:=hm.proof.len
 obtain ⟨am,cm,hvm⟩:=hme.len
 have e0:=ho.kind
 have e3:=ho.piece
 have e4:=ho.ids
 have e5:=ho.bytes
 have e6:=ho.proof
 have e7:=ho.members
 have hls:=ho.lt
 rw [hvi] at e4 hi
 rw [hvb] at e5
 rw [hvp] at e6
 rw [hvm] at e7 hme
 have HW:=Lib.hid hW
 have HI:=Lib.hid hi
 have HM:=Lib.hid hme
 clear hW hm hmW hvi hvb hvp hvm ho hi hme
 have hbF:Below w.heap.size w (W.alloc (.cells #[.func (.func 127) #[] #[]] 130)):=hb.alloc hb.size _
 have hbG:Below W.heap.size W (W.alloc (.cells #[.func (.func 127) #[] #[]] 130)):=(Below.refl _ _).alloc (Nat.le_refl _) _
 rcases (show i = 3∨i = 4∨i = 5∨i = 6∨i = 7∨(i = 1∨i = 2∨i = 8) by omega) with rfl | rfl | rfl | rfl | rfl | h8
 ·rw [show fitsB m 3 = withinB m.piece 0 1023 from rfl]
  have hI:=fun w'=>wwithin_any m.piece 0 1023 w'
  generalize withinB m.piece 0 1023 = B at *
  clear e0 e4 e5 e6 e7
  generalize m.piece = n at *
  go_enter Tryz.func80,Tryz.ntmps80
  go_upto_region 1 with (fail)
  rw [HW.out]
  go_wp2_with (first | (go_at_call 128;refine (hI _).mono ?_;rintro e w2 ⟨rfl,rfl⟩))
  go_ret
  exact ⟨rfl,hbF⟩
 ·rw [show fitsB m 4 = (decide (m.ids.length ≤ 64) && m.ids.all idB) from rfl]
  have hC:=fun w' (h:Below W.heap.size W w')=>ContainsFunc_any _ m.ids w' (HI.out.of_new h)
  generalize m.ids.all idB = B at *
  generalize m.ids.length = n at *
  clear e0 e3 e5 e6 e7
  by_cases hn:n ≤ 64
  ·rw [decide_eq_true hn]
   have t:(n:Int) ≤ 64:=by omega
   go_enter Tryz.func80,Tryz.ntmps80
   go_upto_region 1 with (fail)
   rw [HW.out]
   go_wp2_with (first | (go_at_call 130;refine (hC _ hbG).mono ?_;rintro e w2 ⟨rfl,hb2⟩))
   go_ret
   exact ⟨ret_bool (by simp),below_next hbF hb2⟩
  ·rw [decide_eq_false hn]
   have t:¬ (n:Int) ≤ 64:=by omega
   clear hC
   go_enter Tryz.func80,Tryz.ntmps80
   go_upto_region 1 with (fail)
   rw [HW.out]
   go_wp2
   go_ret
   exact ⟨rfl,hbF⟩
 ·rw [show fitsB m 5 = withinB m.bytes.length 1 (mostL m.kind) from rfl]
  have hI:=fun w'=>wwithin_any m.bytes.length 1 (mostL m.kind) w'
  have hM:=fun w'=>most_any m.kind w'
  generalize withinB m.bytes.length 1 (mostL m.kind) = B at *
  generalize mostL m.kind = q at *
  generalize m.bytes.length = n at *
  generalize m.kind = k at *
  clear e3 e4 e6 e7
  go_enter Tryz.func80,Tryz.ntmps80
  go_upto_region 1 with (fail)
  rw [HW.out]
  go_upto_region 9 with (fail)
  generalize hWF:W.alloc _ = WF at *
  have f0:∀ w',Grew WF w'→w'.cell? ⟨w.heap.size,0,none⟩ = some (.int .i64 k):=fun w' hw'=>hw'.cell ((hbG.cell (p:=⟨w.heap.size,0,none⟩) hls).trans e0)
  have f5:∀ w',Grew WF w'→w'.cell? ⟨w.heap.size,35,none⟩ = some (.slice ab n cb):=fun w' hw'=>hw'.cell ((hbG.cell (p:=⟨w.heap.size,35,none⟩) hls).trans e5)
  clear e0 e5 hWF
  refine wp_region_grew (by kernel_rfl) (by kernel_rfl) ?_
  repeat (first
   | (go_big_quiet_want;apply quiet_call (f:=128);(intro w' hw';go_simp;first | done | rfl);(intro w' hw';exact Grew.same hw' (hI w'));go_simp;go_big_quiet_on)
   | (go_big_quiet_want;apply quiet_call (f:=131);(intro w' hw';go_simp;first | done | rfl);(intro w' hw';exact Grew.same hw' (hM w'));go_simp;go_big_quiet_on)
   | (go_big_quiet_want;(with_reducible apply quiet_load_at (ty:=31) (x:=.tmp _));rfl;rfl;assumption;go_simp;go_big_quiet_on)
   | (go_big_quiet_want;apply quiet_val;(intro w' hw';go_simp;first | done | rfl);go_simp;go_big_quiet_on)
   | (go_big_quiet_skip))
  refine wpQuiet_nil ?_
  intro w9 hw9
  go_wp2
  go_ret
  exact ⟨rfl,below_next hbF hw9⟩
 ·rw [show fitsB m 6 = decide (m.proof.length ≤ 10) from rfl]
  generalize m.proof.length = n at *
  have hd:decide (n ≤ 10) = decide ((n:Int) ≤ 10):=by rw [Bool.eq_iff_iff];simp;omega
  rw [hd]
  clear e0 e3 e4 e5 e7 hd
  go_enter Tryz.func80,Tryz.ntmps80
  go_upto_region 1 with (fail)
  rw [HW.out]
  go_wp2
  go_ret
  exact ⟨rfl,hbF⟩
 ·rw [show fitsB m 7 = (withinB m.members.length 1 65 && m.members.all memB0) from rfl]
  have hI:=fun w'=>wwithin_any m.members.length 1 65 w'
  have hC:=fun w' (h:Below W.heap.size W w') g hg=>ContainsFuncM_any _ m.members g w' (HM.out.of_new h) hg
  generalize m.members.all memB0 = B at *
  generalize withinB m.members.length 1 65 = A at *
  generalize m.members.length = n at *
  clear e0 e3 e4 e5 e6
  cases A
  ·clear hC
   go_enter Tryz.func80,Tryz.ntmps80
   go_upto_region 1 with (fail)
   rw [HW.out]
   go_wp2_with (first | (go_at_call 128;refine (hI _).mono ?_;rintro e w2 ⟨rfl,rfl⟩))
   go_ret
   exact ⟨rfl,hbF⟩
  ·go_enter Tryz.func80,Tryz.ntmps80
   go_upto_region 1 with (fail)
   rw [HW.out]
   go_wp2_with (first | (go_at_call 128;refine (hI _).mono ?_;rintro e w2 ⟨rfl,rfl⟩) | (go_at_call 132;refine (hC _ hbG W.heap.size (by go_simp)).mono ?_;rintro e w3 ⟨rfl,hb3⟩))
   go_ret
   exact ⟨ret_bool (by simp),below_next hbF hb3⟩
 ·have e:fitsB m i = true:=by unfold fitsB;rcases h8 with rfl | rfl | rfl <;> rfl
  rw [e]
  clear e0 e3 e4 e5 e6 e7 e
  rcases h8 with rfl | rfl | rfl
  all_goals
   go_enter Tryz.func80,Tryz.ntmps80
   go_upto_region 1 with (fail)
   rw [HW.out]
   go_wp2
   go_ret
   exact ⟨rfl,hbF⟩
theorem rightF_step (m:MsgL) {k:Nat} (h1:k ≤ 8):rightF m (9 - k) k = (itemB m k && rightF m (9 - (k + 1)) ((k + 1:Nat):Int)):=by
 rw [show 9 - k = (9 - (k + 1)) + 1 by omega,rightF]
 simp
theorem rightF_end (m:MsgL) (k:Int):rightF m (9 - 9) k = true:=rfl
theorem wrightB_from (m:MsgL):wrightB m = rightF m (9 - 1) ((1:Nat):Int):=rfl
set_option maxHeartbeats 3200000 in
theorem WRight_any (m:MsgL) (s:MsgS) (w:World) (hm:MsgR w m s) :
  Calls Tryz.prog 38 #[MsgV m s] w fun e w'=>e = .returned (.bool (wrightB m))∧Below w.heap.size w w':=by
 obtain ⟨W,hW,ho,hb⟩:=msg_boxed w (s:=s) hm.hash
 obtain ⟨V,hV⟩:∃ V,MsgV m s = V:=⟨_,rfl⟩
 have hH:=has_any m.kind W
 have e0:=ho.kind
 have hls:=ho.lt
 have HM:=Lib.hid hm
 have HO:=Lib.hid ho
 have HW:=Lib.hid hW
 obtain ⟨B,hB⟩:∃ B,wrightB m = B:=⟨_,rfl⟩
 rw [hB]
 have HB:=Lib.hid (hB.symm.trans (wrightB_from m))
 rw [show MsgV m s = .agg (msgCells m s).toArray from rfl] at hV ⊢
 clear hW hm ho hB hV
 go_enter Tryz.func38,Tryz.ntmps38
 go_upto_region 1 with (fail)
 rw [HW.out]
 go_wp2_with (first | (go_at_call 78;refine hH.mono ?_;rintro e w2 ⟨v2,rfl,hv2,hb2⟩;obtain ⟨a2,c2,hv⟩:=hv2.len;subst hv;have HV:=Lib.hid hv2;have HO2:=Lib.hid (HO.out.of_new hb2);have hbA:=below_next hb hb2;clear hv2 hb2))
 go_loopw [4,5] (fun iv _ W'=>∃ k:Nat,1 ≤ k∧k ≤ 9∧iv = .int .i64 k∧B = rightF m (9 - k) k∧Below w2.heap.size w2 W') (fun iv _ _=>9 - (intOf iv).toNat)
 case atStart=>exact ⟨1,by omega,by omega,rfl,HB.out,Below.refl _ _⟩
 case round=>
  obtain ⟨k,hk1,hk9,rfl,hm,hbk⟩:=hrel
  by_cases hlt:k ≤ 8
  ·rw [rightF_step m hlt] at hm
   have hbw:=below_next hbA hbk
   have HOk:=Lib.hid (HO2.out.of_new hbk)
   have hC:=Contains_any _ (hasL m.kind) k wr (HV.out.of_new hbk)
   have hF:=fun w' (h:Below wr.heap.size wr w')=>fits_any m s k w' (HM.out.of_new (below_next hbw h)) (by omega) (by omega)
   have hR:=fun w' (h:Below wr.heap.size wr w')=>bare_any m s k w' (HM.out.of_new (below_next hbw h)) (by omega) (by omega)
   generalize hQ:rightF m (9 - (k + 1)) ((k + 1:Nat):Int) = Q at *
   have HQ:=Lib.hid hQ
   unfold itemB at hm
   clear hQ
   by_cases hin:(k:Int) ∈ hasL m.kind
   ·rw [decide_eq_true hin] at hC
    rw [if_pos hin] at hm
    clear hin hR
    generalize fitsB m k = F at *
    have HN:=Lib.hid hm
    clear hm
    cases F with
    | false=>
     go_wp2_with (first
      | (go_at_call 79;refine hC.mono ?_;rintro e w3 ⟨rfl,hb3⟩;have HO3:=Lib.hid (HOk.out.of_new hb3))
      | ((with_reducible refine wpList_met (o:=⟨some 18,_,_,_,_,_⟩) ?_ ?_);rfl;intro K hK;refine wp_load_msg (g:=w.heap.size) (m:=m) (s:=s) rfl rfl HO3.out (hK _ _ ?_))
      | (go_at_call 80;refine (hF _ hb3).mono ?_;rintro e w4 ⟨rfl,hb4⟩))
     go_ret
     exact ⟨ret_bool (by rw [HN.out];rfl),below_next (below_next hbw hb3) hb4⟩
    | true=>
     go_wp2_with (first
      | (go_at_call 79;refine hC.mono ?_;rintro e w3 ⟨rfl,hb3⟩;have HO3:=Lib.hid (HOk.out.of_new hb3))
      | ((with_reducible refine wpList_met (o:=⟨some 18,_,_,_,_,_⟩) ?_ ?_);rfl;intro K hK;refine wp_load_msg (g:=w.heap.size) (m:=m) (s:=s) rfl rfl HO3.out (hK _ _ ?_))
      | (go_at_call 80;refine (hF _ hb3).mono ?_;rintro e w4 ⟨rfl,hb4⟩))
     go_roundw
     case rel=>exact ⟨k + 1,by omega,by omega,by go_num,by rw [HN.out,HQ.out];rfl,below_next (below_next hbk hb3) hb4⟩
     case measure=>simp [intOf];omega
   ·rw [decide_eq_false hin] at hC
    rw [if_neg hin] at hm
    clear hin hF
    generalize bareB m k = F at *
    have HN:=Lib.hid hm
    clear hm
    cases F with
    | false=>
     go_wp2_with (first
      | (go_at_call 79;refine hC.mono ?_;rintro e w3 ⟨rfl,hb3⟩;have HO3:=Lib.hid (HOk.out.of_new hb3))
      | ((with_reducible refine wpList_met (o:=⟨some 27,_,_,_,_,_⟩) ?_ ?_);rfl;intro K hK;refine wp_load_msg (g:=w.heap.size) (m:=m) (s:=s) rfl rfl HO3.out (hK _ _ ?_))
      | (go_at_call 81;refine (hR _ hb3).mono ?_;rintro e w4 ⟨rfl,hb4⟩))
     go_ret
     exact ⟨ret_bool (by rw [HN.out];rfl),below_next (below_next hbw hb3) hb4⟩
    | true=>
     go_wp2_with (first
      | (go_at_call 79;refine hC.mono ?_;rintro e w3 ⟨rfl,hb3⟩;have HO3:=Lib.hid (HOk.out.of_new hb3))
      | ((with_reducible refine wpList_met (o:=⟨some 27,_,_,_,_,_⟩) ?_ ?_);rfl;intro K hK;refine wp_load_msg (g:=w.heap.size) (m:=m) (s:=s) rfl rfl HO3.out (hK _ _ ?_))
      | (go_at_call 81;refine (hR _ hb3).mono ?_;rintro e w4 ⟨rfl,hb4⟩))
     go_roundw
     case rel=>exact ⟨k + 1,by omega,by omega,by go_num,by rw [HN.out,HQ.out];rfl,below_next (below_next hbk hb3) hb4⟩
     case measure=>simp [intOf];omega
  ·obtain rfl:k = 9:=by omega
   rw [rightF_end] at hm
   have HN:=Lib.hid hm
   clear hm
   go_wp2
   go_ret
   exact ⟨ret_bool HN.out.symm,below_next hbA hbk⟩
theorem build_rtab (a b:Int) (W:World):(Instr.build 144 #[(0,.int .i64 a),(1,.int .i64 b)]).run Tryz.prog W = .ok (.agg #[.int .i64 a,.int .i64 b,.slice none 0 0]) W:=by kernel_rfl
theorem rtabP_new (w:World) (a b:Int):RTabP (w.alloc (.cells #[.int .i64 a,.int .i64 b,.slice none 0 0] 144)) w.heap.size a b w.heap.size (.slice none 0 0) [] []:=
 ⟨heap_alloc_new w _,Nat.le_refl _,RecT.Own.nil _ _,rfl,fun i x y hx=>by simp at hx⟩
set_option maxHeartbeats 800000 in
theorem RNew_ok (a b:Int) (w:World) (h:newOk a b = true):Calls Tryz.prog 58 #[.int .i64 a,.int .i64 b] w fun e w'=>∃ r,e = .returned (.tuple #[.pointer (some ⟨r,0,none⟩),.int .i64 0])∧RTabP w' r a b w.heap.size (.slice none 0 0) [] []∧Below w.heap.size w w':=by
 obtain ⟨h1,h2⟩:=newOk_iff.1 h
 have hb:=build_rtab a b
 have t1:¬ a < 1:=by omega
 have t2:¬ (1000:Int) < a:=by omega
 have t3:¬ b < 1:=by omega
 have t4:¬ (64:Int) < b:=by omega
 have HN:=Lib.hid (rtabP_new w a b)
 have HB:=Lib.hid ((Below.refl w.heap.size w).alloc (Nat.le_refl _) (.cells #[.int .i64 a,.int .i64 b,.slice none 0 0] 144))
 clear h h1 h2
 go_enter Tryz.func58,Tryz.ntmps58
 go_wp2
 go_ret2
 exact ⟨_,rfl,HN.out,HB.out⟩
end Go.Proofs.YtnohglkilpnjhaaGreatDoor
namespace Go.Proofs.YtnohglkilpnjhaaGreatDoor
open Go.RowKit
section
variable {ro:Option Nat} {m:Nat} {P:Program} {ops:Array Oper} {md:Region.Mode} {C:World→Prop} {D:Nat→Bool} {Q:Exit→Act→World→Prop}
def StepS (ro:Option Nat) (m:Nat) (P:Program) (md:Region.Mode) (ops:Array Oper) (C:World→Prop) (D:Nat→Bool) (Q:Exit→Act→World→Prop) (fuel:Nat) (listed:Array Bool) (p:Nat) (o:Oper) (a:Act) (w:World):Prop:=
 o.wp P a w (fun a' w'=>C w'∧wpAnyS ro m P md ops C D Q fuel (listed.setIfInBounds p true) a' w') Q
theorem wpOpIn_step (hnd:noDefer ops = true) {fuel p:Nat} {listed:Array Bool} {o:Oper} {a:Act} {w:World} (h0:ops[p]? = some o) (hg:o.guard = none) (h:StepS ro m P md ops C D Q fuel listed p o a w) :
  wpOpIn (WF ro) m P ops Q p (fun a' w'=>(D p = false→C w')∧wpAnyS ro m P md ops C D Q fuel (listed.setIfInBounds p true) a' w') a w:=by
 unfold wpOpIn
 simp only [h0]
 rw [if_pos (by simp [Region.wanted,hg])]
 exact wpIn_of_wp (noDefer_spec hnd h0) (Oper.wp_mono (fun a' w' h'=>⟨fun _=>h'.1,h'.2⟩) h)
theorem wpAnyS_one (hnd:noDefer ops = true) {fuel:Nat} {listed:Array Bool} {a:Act} {w:World} (p:Nat) {o:Oper} (h0:ops[p]? = some o) (hg:o.guard = none) (hr:Region.ready md ops listed = [p]) (h:StepS ro m P md ops C D Q fuel listed p o a w) :
  wpAnyS ro m P md ops C D Q (fuel + 1) listed a w:=by
 refine ⟨fun h1=>(by rw [hr] at h1;cases h1),fun i hi=>?_⟩
 rw [hr] at hi
 obtain rfl:i = p:=by simpa using hi
 exact wpOpIn_step hnd h0 hg h
theorem wpAnyS_two (hnd:noDefer ops = true) {fuel:Nat} {listed:Array Bool} {a:Act} {w:World} (p q:Nat) {o o2:Oper} (h0:ops[p]? = some o) (hg:o.guard = none) (h02:ops[q]? = some o2) (hg2:o2.guard = none) (hr:Region.ready md ops listed = [p,q])
  (h:StepS ro m P md ops C D Q fuel listed p o a w) (h2:StepS ro m P md ops C D Q fuel listed q o2 a w):wpAnyS ro m P md ops C D Q (fuel + 1) listed a w:=by
 refine ⟨fun h1=>(by rw [hr] at h1;cases h1),fun i hi=>?_⟩
 rw [hr] at hi
 simp only [List.mem_cons,List.not_mem_nil,or_false] at hi
 rcases hi with rfl | rfl
 ·exact wpOpIn_step hnd h0 hg h
 ·exact wpOpIn_step hnd h02 hg2 h2
theorem wpAnyS_pure (hnd:noDefer ops = true) (hsel:Region.noSelect ops = true) (hQ:∀ c (a:Act) (d:Option Tmp) (v:Value) w,Q (.panic c) (a.put d v) w→Q (.panic c) a w) {fuel:Nat} {listed:Array Bool} {a:Act} {w:World} (p:Nat) {o:Oper} (h0:ops[p]? = some o)
  (he:(earlyOp2 o && (Region.ready md ops listed).contains p && Region.free md ops listed p && D p) = true)
  (h:o.quiet P a (fun _=>True) (fun a'=>wpAnyS ro m P md ops C D Q fuel (listed.setIfInBounds p true) a' w)):wpAnyS ro m P md ops C D Q (fuel + 1) listed a w:=by
 simp only [Bool.and_eq_true] at he
 obtain ⟨⟨⟨he,hr⟩,hf⟩,hd⟩:=he
 obtain ⟨v,hv,hK⟩:=h
 exact wpAnyS_takeP hnd h0 (Region.noSelect_spec hsel) hQ hd fuel listed a w (Region.free_spec h0 hf) (by simpa using hr) (still_of_quiet2 he hv) hK
def stepB (l:List Oper) (D hs:List Nat) (g:Nat):Bool:=
 Region.noSelect l.toArray && noDefer l.toArray && decide (hs.length + g = l.length) && (D.all fun j=>decide (j < l.length)) && earlyI .any l.toArray (fun j=>D.contains j) hs (Array.replicate l.length false)
theorem wpIn_region_steps {id:Nat} {a:Act} {w:World} {l:List Oper} (D hs:List Nat) (g:Nat) (hm:P.follows .mixedOrders = true) (hB:stepB l D hs g = true)
  (hC:C { w with drawn:=w.drawn + 1 }) (hQ:∀ c (a:Act) (d:Option Tmp) (v:Value) w,Q (.panic c) (a.put d v) w→Q (.panic c) a w)
  (h:wpQuiet P l.toArray C (fun a'=>∀ w',C w'→wpAnyS ro m P .any l.toArray C (fun j=>D.contains j) Q g (listedI hs (Array.replicate l.length false)) a' w') (opsAt l hs) a) :
  (Code.region id l.toArray true).wpIn (WF ro) m P Q a w:=by
 simp only [stepB,Bool.and_eq_true,decide_eq_true_eq] at hB
 obtain ⟨⟨⟨⟨hsel,hnd⟩,hlen⟩,hlt⟩,hearly⟩:=hB
 have hsz:l.toArray.size = l.length:=by simp
 refine wpIn_region_any hm ?_
 rw [hsz,← hlen]
 refine wpAnyS_any (C:=C) (D:=fun j=>D.contains j) _ _ _ _ ?_
 refine wpAnyS_earlyI (R:=fun a'=>∀ w',C w'→wpAnyS ro m P .any l.toArray C (fun j=>D.contains j) Q g (listedI hs (Array.replicate l.length false)) a' w') hnd hsel hQ (fun j hj=>?_) hs (Array.replicate (hs.length + g) false) a _ (by simp [hlen]) (fun j oj _ hl=>(by rw [getD_replicate_false] at hl;cases hl)) hC (by rw [hlen];exact hearly) h (fun a' w' hw' hR=>?_)
 ·cases hc:D.contains j with
  | false=>rfl
  | true=>
   have:=List.all_eq_true.1 hlt j (by simpa using hc)
   simp only [decide_eq_true_eq] at this
   omega
 ·rw [hlen];exact hR w' hw'
end
end Go.Proofs.YtnohglkilpnjhaaGreatDoor
namespace Go.Proofs.YtnohglkilpnjhaaGreatDoor
open Go.RowKit
set_option maxRecDepth 100000
theorem peer_till_set {w:World} {g:Nat} {p:PeerL} (h:RPeer.O w g p) (t:Int):RPeer.O (w.setCell ⟨g,1,none⟩ (.int .i64 t)) g ⟨p.id,t,p.seed⟩:=by
 refine ⟨?_,trivial⟩
 obtain ⟨hlt,hk⟩:=Array.getElem?_eq_some_iff.1 h.1
 show (w.heap.modify g _)[g]? = _
 rw [Array.getElem?_eq_getElem (by rw [Array.size_modify];exact hlt),Array.getElem_modify_self,hk]
 rfl
theorem peer_seed_set {w:World} {g:Nat} {p:PeerL} (h:RPeer.O w g p) (b:Bool):RPeer.O (w.setCell ⟨g,2,none⟩ (.bool b)) g ⟨p.id,p.till,b⟩:=by
 refine ⟨?_,trivial⟩
 obtain ⟨hlt,hk⟩:=Array.getElem?_eq_some_iff.1 h.1
 show (w.heap.modify g _)[g]? = _
 rw [Array.getElem?_eq_getElem (by rw [Array.size_modify];exact hlt),Array.getElem_modify_self,hk]
 rfl
set_option maxHeartbeats 6400000 in
theorem RWith_any (v:Value) (l:List PeerL) (p:PeerL) (w:World) (hl:RPeer.Row w v l) (hr:Rising PeerL.id l) (hlen:l.length ≤ 1000) :
  Calls Tryz.prog 149 #[v,RPeer.V p] w fun e w'=>∃ v',e = .returned v'∧RPeer.Own w' w.heap.size v' (insK PeerL.id (mergeP p l) l)∧Below w.heap.size w w':=by
 obtain ⟨a,c,hv⟩:=hl.len
 subst hv
 obtain ⟨W,hW⟩:∃ W,w.alloc (.cells (RPeer.cells p).toArray 137) = W:=⟨_,rfl⟩
 have ho:RPeer.O W w.heap.size p:=by rw [← hW];exact RecT.o_new w (RPeer_ok p)
 have hb:Below w.heap.size w W:=by rw [← hW];exact (Below.refl _ w).alloc (Nat.le_refl _) _
 have HL:=Lib.hid hl
 have HR:=Lib.hid hr
 have HO:=Lib.hid ho
 have HB:=Lib.hid hb
 have HW:=Lib.hid (show w.alloc (.cells #[.int .i64 p.id,.int .i64 p.till,.bool p.seed] 137) = W from hW)
 clear hl hr ho hb hW
 show Calls Tryz.prog 149 #[.slice a l.length c,.agg #[.int .i64 p.id,.int .i64 p.till,.bool p.seed]] w _
 go_enter Tryz.func149,Tryz.ntmps149
 go_upto_region 1 with (fail)
 rw [HW.out]
 obtain ⟨g,hg⟩:∃ g,w.heap.size = g:=⟨_,rfl⟩
 have HG:=Lib.hid hg
 rw [hg] at HO HB ⊢
 clear hg
 go_wp2
 go_loopw [7] (fun iv W'=>∃ k:Nat,k ≤ l.length∧iv = .int .i64 (k:Int)∧RPeer.O W' g (mergeP p (l.take k))∧Below g w W') (fun iv _=>l.length - (intOf iv).toNat)
 case atStart=>exact ⟨0,Nat.zero_le _,rfl,HO.out,HB.out⟩
 case round=>
  obtain ⟨k,hk,rfl,hpo,hbr⟩:=hrel
  by_cases hlt:k < l.length
  ·have hki:(k:Int) < (l.length:Int):=by omega
   obtain ⟨b,off,c',hv,hbl,hat⟩:=HL.out.at_ (by omega)
   obtain ⟨rfl,rfl⟩:a = some ⟨b,off,none⟩∧c = c':=by cases hv;exact ⟨rfl,rfl⟩
   obtain ⟨q,hq⟩:∃ q,l[k]? = some q:=⟨_,List.getElem?_eq_getElem hlt⟩
   have hbg:b < g:=by rw [← HG.out];exact hbl
   have hA:RPeer.At wr b (off + k * 3) q:=⟨trivial,Nat.lt_trans hbg hpo.lt,fun j hj=>(hbr.cell (p:=⟨b,off + k * 3 + j,none⟩) hbg).trans ((hat k q hq).2.2 j hj)⟩
   have HST:=Lib.hid (mergeP_snoc p (l.take k) q)
   obtain ⟨P,hP⟩:∃ P,mergeP p (l.take k) = P:=⟨_,rfl⟩
   rw [hP] at HST hpo
   have HTK:=Lib.hid (take_snoc_at hq)
   have HPO:=Lib.hid hpo
   have HBR:=Lib.hid hbr
   have HA:=Lib.hid hA
   have HBG:=Lib.hid hbg
   have c1:=fun w' (h:Grew wr w')=>(Grew.cell h (peer_cells hA).1:w'.cell? ⟨b,off + k * 3,none⟩ = _)
   have c2:=fun w' (h:Grew wr w')=>Grew.cell h (RPeer_id hpo)
   clear hv hbl hat hq hP hpo hbr hA hbg
   go_upto_region 6 with (fail)
   by_cases he:q.id = P.id
   ·have e1:(q.id == P.id) = true:=beq_iff_eq.2 he
    have hst:=HST.out
    rw [if_pos he] at hst
    have HS2:=Lib.hid hst
    clear hst he
    refine wp_region_grew (by kernel_rfl) (by kernel_rfl) ?_
    repeat (first
     | (go_big_quiet_want;(with_reducible apply quiet_load_at (ty:=31) (x:=.tmp _));rfl;rfl;assumption;go_simp;go_big_quiet_on)
     | (go_big_quiet_want;apply quiet_val;(intro w' hw';go_simp;first | done | rfl);go_simp;go_big_quiet_on)
     | (go_big_quiet_skip))
    refine wpQuiet_nil ?_
    intro w5 hw5
    have HPO5:=Lib.hid (HPO.out.of_new hw5)
    have HA5:=Lib.hid (HA.out.of_new hw5)
    have HB5:=Lib.hid (below_next' HBR.out hw5 (Nat.le_of_lt HPO.out.lt))
    have c3:=fun w' (h:Grew w5 w')=>Grew.cell h (RPeer_till HPO5.out)
    have c4:=fun w' (h:Grew w5 w')=>(Grew.cell h (peer_cells HA5.out).2.1:w'.cell? ⟨b,off + k * 3 + 1,none⟩ = _)
    clear c1 c2 hw5
    by_cases hmx:P.till < q.till
    case' pos=>skip
    case' neg=>skip
    all_goals
     go_upto_region 7 with (fail)
     refine wp_region_grew_tail 9 (by kernel_rfl) (by kernel_rfl) ?_
     simp only [List.take_succ_cons,List.take_zero,List.drop_succ_cons,List.drop_zero]
     repeat (first
      | (go_big_quiet_want;(with_reducible apply quiet_load_at (ty:=31) (x:=.tmp _));rfl;rfl;assumption;go_simp;go_big_quiet_on)
      | (go_big_quiet_want;apply quiet_val;(intro w' hw';go_simp;first | done | rfl);go_simp;go_big_quiet_on)
      | (go_big_quiet_skip))
     refine wpQuiet_nil ?_
     intro w6 hw6
     have HPO6:=Lib.hid (HPO5.out.of_new hw6)
     have HA6:=Lib.hid (HA5.out.of_new hw6)
     have HB6:=Lib.hid (below_next' HB5.out hw6 (Nat.le_of_lt HPO5.out.lt))
     have hf:=HPO6.out.free 1
     have hc6:=RPeer_till HPO6.out
     clear c3 c4 hw6
     go_upto_region 8 with (fail)
     generalize hW7:World.setCell w6 _ _ = w7
     obtain ⟨M,hpo7,hA7,hb7,hM⟩:∃ M,RPeer.O w7 g ⟨P.id,M,P.seed⟩∧RPeer.At w7 b (off + k * 3) q∧Below g w w7∧max P.till q.till = M:=by
      subst hW7
      exact ⟨_,peer_till_set HPO6.out _,HA6.out.of_block (Below.heap_setCell _ _ _ _ (Nat.ne_of_lt HBG.out)),HB6.out.setCell (p:=⟨g,1,none⟩) (Nat.le_refl _) _,by omega⟩
     have hst:=HS2.out
     rw [hM] at hst
     have HPO7:=Lib.hid hpo7
     have HB7:=Lib.hid hb7
     have c5:=RPeer_seed hpo7
     have c6:w7.cell? ⟨b,off + k * 3 + 2,none⟩ = _:=(peer_cells hA7).2.2
     have hf2:=hpo7.free 2
     clear hW7 hM hpo7 hA7 hb7 hf hc6 hmx HS2
     dsimp only at c5
     have hsd:P.seed = true∨P.seed = false:=by cases P.seed <;> simp
     rcases hsd with hB | hB
     ·rw [hB] at c5 hst HPO7
      clear hB
      have HS3:=Lib.hid hst
      clear hst
      go_wp2
      generalize hW8:World.setCell w7 _ _ = w8
      obtain ⟨hpo8,hb8⟩:RPeer.O w8 g (mergeP p (l.take (k + 1)))∧Below g w w8:=by
       subst hW8
       rw [HTK.out,HS3.out]
       exact ⟨peer_seed_set HPO7.out _,HB7.out.setCell (p:=⟨g,2,none⟩) (Nat.le_refl _) _⟩
      have HPO8:=Lib.hid hpo8
      have HB8:=Lib.hid hb8
      clear hW8 hpo8 hb8 c5 c6 hf2
      go_roundw
      case rel=>exact ⟨k + 1,by omega,by go_num,HPO8.out,HB8.out⟩
      case measure=>simp [intOf];omega
     ·rw [hB] at c5 hst HPO7
      clear hB
      have HS3:=Lib.hid hst
      clear hst
      go_wp2
      generalize hW8:World.setCell w7 _ _ = w8
      obtain ⟨hpo8,hb8⟩:RPeer.O w8 g (mergeP p (l.take (k + 1)))∧Below g w w8:=by
       subst hW8
       rw [HTK.out,HS3.out]
       exact ⟨peer_seed_set HPO7.out _,HB7.out.setCell (p:=⟨g,2,none⟩) (Nat.le_refl _) _⟩
      have HPO8:=Lib.hid hpo8
      have HB8:=Lib.hid hb8
      clear hW8 hpo8 hb8 c5 c6 hf2
      go_roundw
      case rel=>exact ⟨k + 1,by omega,by go_num,HPO8.out,HB8.out⟩
      case measure=>simp [intOf];omega
   ·have e1:(q.id == P.id) = false:=beq_eq_false_iff_ne.2 he
    have hst:=HST.out
    rw [if_neg he] at hst
    have HS2:=Lib.hid hst
    clear hst he
    refine wp_region_grew (by kernel_rfl) (by kernel_rfl) ?_
    repeat (first
     | (go_big_quiet_want;(with_reducible apply quiet_load_at (ty:=31) (x:=.tmp _));rfl;rfl;assumption;go_simp;go_big_quiet_on)
     | (go_big_quiet_want;apply quiet_val;(intro w' hw';go_simp;first | done | rfl);go_simp;go_big_quiet_on)
     | (go_big_quiet_skip))
    refine wpQuiet_nil ?_
    intro w5 hw5
    have HPO5:=Lib.hid (HPO.out.of_new hw5)
    have HB5:=Lib.hid (below_next' HBR.out hw5 (Nat.le_of_lt HPO.out.lt))
    clear c1 c2 hw5
    go_wp2
    go_roundw
    case rel=>exact ⟨k + 1,by omega,by go_num,by rw [HTK.out,HS2.out];exact HPO5.out,HB5.out⟩
    case measure=>simp [intOf];omega
  ·obtain rfl:k = l.length:=by omega
   rw [List.take_length] at hpo
   obtain ⟨P,hP⟩:∃ P,mergeP p l = P:=⟨_,rfl⟩
   obtain ⟨n,hn⟩:∃ n,l.length = n:=⟨_,rfl⟩
   have hnb:n ≤ 1000:=by omega
   have HP:=Lib.hid hP
   have HN:=Lib.hid hn
   rw [hP] at hpo
   rw [hn]
   have hki:¬ (n:Int) < (n:Int):=by omega
   have HPO:=Lib.hid hpo
   have HBR:=Lib.hid hbr
   clear hP hn hpo hbr hk hlt
   go_wp2
   go_loopw [5,6,8] (fun ov pv iv W'=>∃ k:Nat,k ≤ n∧iv = .int .i64 (k:Int)∧pv = .bool (putW P (l.take k))∧RPeer.Own W' (g + 1) ov (outW P (l.take k))∧RPeer.O W' g P∧Below g w W') (fun _ _ iv _=>n - (intOf iv).toNat)
   case atStart=>exact ⟨0,Nat.zero_le _,rfl,rfl,RecT.Own.nil _ _,HPO.out,HBR.out⟩
   case round=>
    rename World=>w1
    obtain ⟨k,hk,rfl,rfl,hown,hpo,hbr⟩:=hrel
    obtain ⟨oa,oc,hv⟩:=hown.row.len
    subst hv
    by_cases hlt:k < n
    ·have hki:(k:Int) < (n:Int):=by omega
     obtain ⟨b,off,c',hv,hbl,hat⟩:=HL.out.at_ (by rw [HN.out];omega)
     rw [HN.out] at hv
     obtain ⟨rfl,rfl⟩:a = some ⟨b,off,none⟩∧c = c':=by cases hv;exact ⟨rfl,rfl⟩
     obtain ⟨x,hx⟩:∃ q,l[k]? = some q:=⟨_,List.getElem?_eq_getElem (by rw [HN.out];exact hlt)⟩
     have hbg:b < g:=by rw [← HG.out];exact hbl
     have hA:RPeer.At w1 b (off + k * 3) x:=⟨trivial,Nat.lt_trans hbg hpo.lt,fun j hj=>(hbr.cell (p:=⟨b,off + k * 3 + j,none⟩) hbg).trans ((hat k x hx).2.2 j hj)⟩
     have htk:=take_snoc_at hx
     have hrk:Rising PeerL.id (l.take k ++ [x]):=by rw [← htk];exact List.Pairwise.sublist (List.take_sublist _ _) HR.out
     have hout:=outW_snoc (p:=P) hrk
     have hput:=putW_snoc P (l.take k) x
     have hol:=outW_len (p:=P) (List.Pairwise.sublist (List.take_sublist k _) HR.out)
     rw [List.length_take,HN.out] at hol
     rw [← htk] at hout hput
     obtain ⟨O,hO⟩:∃ O,outW P (l.take k) = O:=⟨_,rfl⟩
     rw [hO] at hout hown hol ⊢
     have hol2:O.length ≤ 1001:=by have:=HN.out;omega
     have HOL:=Lib.hid hol2
     have HOWN:=Lib.hid hown
     have HPO:=Lib.hid hpo
     have HBR:=Lib.hid hbr
     have HA:=Lib.hid hA
     have HTK:=Lib.hid htk
     have HBG:=Lib.hid hbg
     clear hv hbl hat hx hbg hA htk hrk hO hol hol2 hown hpo hbr
     have c1:=fun w' (h:Grew w1 w')=>(Grew.cell h (peer_cells HA.out).1:w'.cell? ⟨b,off + k * 3,none⟩ = _)
     have c2:=fun w' (h:Grew w1 w')=>Grew.cell h (RPeer_id HPO.out)
     go_upto_region 12 with (fail)
     by_cases hap:putW P (l.take k) = false∧P.id ≤ x.id
     case' pos=>
      obtain ⟨h1,h2⟩:=hap
      rw [if_pos ⟨h1,h2⟩] at hout
      have hp2:putW P (l.take (k + 1)) = true:=by rw [hput,h1];simp [h2]
      have HOUT:=Lib.hid hout
      have HPUT:=Lib.hid hp2
      clear hout hp2 hput
      rw [h1]
      clear h1
      refine wp_region_grew (by kernel_rfl) (by kernel_rfl) ?_
      repeat (first
       | (go_big_quiet_want;(with_reducible apply quiet_load_at (ty:=31) (x:=.tmp _));rfl;rfl;assumption;go_simp;go_big_quiet_on)
       | (go_big_quiet_want;apply quiet_val;(intro w' hw';go_simp;first | done | rfl);go_simp;go_big_quiet_on)
       | (go_big_quiet_skip))
      refine wpQuiet_nil ?_
      intro w5 hw5
      have HPO5:=Lib.hid (HPO.out.of_new hw5)
      have HA5:=Lib.hid (HA.out.of_new hw5)
      have HB5:=Lib.hid (below_next' HBR.out hw5 (Nat.le_of_lt HPO.out.lt))
      have HOWN5:=Lib.hid (HOWN.out.of_new hw5)
      clear c1 c2 hw5
      go_upto_region 15 with (first
       | ((with_reducible refine wpList_plain (o:=⟨some 61,Op.load _ _,_,_,_,_⟩) rfl fun K hK=>?_);(refine HPO5.out.at_.wp rfl rfl (hK _ _ ?_)))
       | ((with_reducible refine wpList_plain (o:=⟨some 62,Op.buildSlice _ _ _,_,_,_,_⟩) rfl fun K hK=>?_);(refine RPeer.wp_build1 Tryz.underlying71 (.tmp 61) (RPeer_ok P) rfl rfl fun w6 ho6 hb6 hs6=>hK _ _ ?_);have HO6:=Lib.hid ho6.row;have HB6:=Lib.hid hb6;clear ho6 hb6 hs6)
       | ((with_reducible refine wpList_plain (o:=⟨some 63,Op.call _,_,_,_,_⟩) rfl fun K hK=>?_);(refine (HOWN5.out.of_new HB6.out).app Tryz.underlying71 (.tmp 60) (.tmp 62) rfl rfl rfl HO6.out (by have:=HOL.out;simp;omega) (by have:=HPO5.out.lt;have:=HB6.out.size;omega) fun v7 wz ho7 hg7 hu7=>hK _ _ ?_);have HO7:=Lib.hid ho7;have HPO7:=Lib.hid ((HPO5.out.of_new HB6.out).of_block (hg7.block _ (HPO5.out.of_new HB6.out).lt (fun e=>by have:=(HOWN5.out.lt g e.symm).1;omega)));have HB7:=Lib.hid ((below_next' HB5.out HB6.out (Nat.le_of_lt HPO5.out.lt)).grown hg7 (Nat.le_of_lt (HPO5.out.of_new HB6.out).lt) (fun k e=>by have:=(HOWN5.out.lt k e).1;omega));have HA7:=Lib.hid ((HA5.out.of_new HB6.out).of_block (hg7.block _ (HA5.out.of_new HB6.out).2.1 (fun e=>by have:=(HOWN5.out.lt b e.symm).1;have:=HBG.out;omega)));clear ho7 hg7 hu7))
      obtain ⟨a7,c7,hv7⟩:=HO7.out.row.len
      subst hv7
      obtain ⟨O1,hO1⟩:∃ O1,O ++ [P] = O1:=⟨_,rfl⟩
      have hol1:O1.length ≤ 1002:=by rw [← hO1];have:=HOL.out;simp;omega
      rw [hO1] at HO7 HOUT ⊢
      have HO1:=HO7
      have HP1:=HPO7
      have HA1:=HA7
      have HB1:=HB7
      have HOL1:=Lib.hid hol1
      clear hO1 hol1 h2 HO6 HB6 HO7 HPO7 HA7 HB7 HPO5 HA5 HB5 HOWN5
     case' neg=>
      have hpv:putW P (l.take k) = true∨(putW P (l.take k) = false∧¬ P.id ≤ x.id):=by
       cases hq:putW P (l.take k) with
       | true=>exact .inl rfl
       | false=>exact .inr ⟨rfl,fun h=>hap ⟨hq,h⟩⟩
      rw [if_neg hap] at hout
      have HOUT:=Lib.hid hout
      clear hout hap
      rcases hpv with hpv | ⟨hpv,hnx⟩
      case' inl=>
       have hp2:putW P (l.take (k + 1)) = true:=by rw [hput,hpv];simp
       have HPUT:=Lib.hid hp2
       rw [hpv]
       clear hp2 hput hpv
      case' inr=>
       have hp2:putW P (l.take (k + 1)) = false:=by rw [hput,hpv];simp;omega
       have HPUT:=Lib.hid hp2
       rw [hpv]
       clear hp2 hput hpv
      all_goals
       refine wp_region_grew (by kernel_rfl) (by kernel_rfl) ?_
       repeat (first
        | (go_big_quiet_want;(with_reducible apply quiet_load_at (ty:=31) (x:=.tmp _));rfl;rfl;assumption;go_simp;go_big_quiet_on)
        | (go_big_quiet_want;apply quiet_val;(intro w' hw';go_simp;first | done | rfl);go_simp;go_big_quiet_on)
        | (go_big_quiet_skip))
       refine wpQuiet_nil ?_
       intro wz hwz
       have HP1:=Lib.hid (HPO.out.of_new hwz)
       have HA1:=Lib.hid (HA.out.of_new hwz)
       have HB1:=Lib.hid (below_next' HBR.out hwz (Nat.le_of_lt HPO.out.lt))
       have HO1:=Lib.hid (HOWN.out.of_new hwz)
       have hol1:O.length ≤ 1002:=by have:=HOL.out;omega
       have HOL1:=Lib.hid hol1
       clear c1 c2 hwz hol1
       obtain ⟨O1,hO1⟩:∃ O1,O = O1:=⟨_,rfl⟩
       rw [hO1] at HO1 HOUT HOL1 ⊢
       clear hO1
       go_upto_region 15 with (fail)
     all_goals
      have c1:=fun w' (h:Grew wz w')=>(Grew.cell h (peer_cells HA1.out).1:w'.cell? ⟨b,off + k * 3,none⟩ = _)
      have c2:=fun w' (h:Grew wz w')=>Grew.cell h (RPeer_id HP1.out)
      by_cases he:x.id = P.id
      ·have e1:(x.id != P.id) = false:=by simp [he]
       have hout:=HOUT.out
       rw [if_pos he,List.append_nil] at hout
       have HOUT2:=Lib.hid hout
       clear he hout
       refine wp_region_grew (by kernel_rfl) (by kernel_rfl) ?_
       repeat (first
        | (go_big_quiet_want;(with_reducible apply quiet_load_at (ty:=31) (x:=.tmp _));rfl;rfl;assumption;go_simp;go_big_quiet_on)
        | (go_big_quiet_want;apply quiet_val;(intro w' hw';go_simp;first | done | rfl);go_simp;go_big_quiet_on)
        | (go_big_quiet_skip))
       refine wpQuiet_nil ?_
       intro w8 hw8
       have HP8:=Lib.hid (HP1.out.of_new hw8)
       have HO8:=Lib.hid (HO1.out.of_new hw8)
       have HB8:=Lib.hid (below_next' HB1.out hw8 (Nat.le_of_lt HP1.out.lt))
       clear c1 c2 hw8
       go_wp2
       go_roundw
       case rel=>exact ⟨k + 1,by omega,by go_num,by rw [HPUT.out],by rw [HOUT2.out];exact HO8.out,HP8.out,HB8.out⟩
       case measure=>simp [intOf];omega
      ·have e1:(x.id != P.id) = true:=by simp [he]
       have hout:=HOUT.out
       rw [if_neg he] at hout
       have HOUT2:=Lib.hid hout
       clear he hout
       refine wp_region_grew (by kernel_rfl) (by kernel_rfl) ?_
       repeat (first
        | (go_big_quiet_want;(with_reducible apply quiet_load_at (ty:=31) (x:=.tmp _));rfl;rfl;assumption;go_simp;go_big_quiet_on)
        | (go_big_quiet_want;apply quiet_val;(intro w' hw';go_simp;first | done | rfl);go_simp;go_big_quiet_on)
        | (go_big_quiet_skip))
       refine wpQuiet_nil ?_
       intro w8 hw8
       have HP8:=Lib.hid (HP1.out.of_new hw8)
       have HA8:=Lib.hid (HA1.out.of_new hw8)
       have HO8:=Lib.hid (HO1.out.of_new hw8)
       have HB8:=Lib.hid (below_next' HB1.out hw8 (Nat.le_of_lt HP1.out.lt))
       clear c1 c2 hw8
       go_wp2_with (first
        | ((with_reducible refine wpList_plain (o:=⟨some 76,Op.load _ _,_,_,_,_⟩) rfl fun K hK=>?_);(refine HA8.out.wp rfl rfl (hK _ _ ?_)))
        | ((with_reducible refine wpList_plain (o:=⟨some 77,Op.buildSlice _ _ _,_,_,_,_⟩) rfl fun K hK=>?_);(refine RPeer.wp_build1 Tryz.underlying71 (.tmp 76) (RPeer_ok x) rfl rfl fun w9 ho9 hb9 hs9=>hK _ _ ?_);have HO9:=Lib.hid ho9.row;have HB9:=Lib.hid hb9;clear ho9 hb9 hs9)
        | ((with_reducible refine wpList_plain (o:=⟨some 78,Op.call _,_,_,_,_⟩) rfl fun K hK=>?_);(refine (HO8.out.of_new HB9.out).app Tryz.underlying71 (.tmp 72) (.tmp 77) rfl rfl rfl HO9.out (by have:=HOL1.out;simp;omega) (by have:=HP8.out.lt;have:=HB9.out.size;omega) fun v10 w10 ho10 hg10 hu10=>hK _ _ ?_);have HO10:=Lib.hid ho10;have HP10:=Lib.hid ((HP8.out.of_new HB9.out).of_block (hg10.block _ (HP8.out.of_new HB9.out).lt (fun e=>by have:=(HO8.out.lt g e.symm).1;omega)));have HB10:=Lib.hid ((below_next' HB8.out HB9.out (Nat.le_of_lt HP8.out.lt)).grown hg10 (Nat.le_of_lt (HP8.out.of_new HB9.out).lt) (fun k e=>by have:=(HO8.out.lt k e).1;omega));clear ho10 hg10 hu10))
       go_roundw
       case rel=>exact ⟨k + 1,by omega,by go_num,by rw [HPUT.out],by rw [HOUT2.out];exact HO10.out,HP10.out,HB10.out⟩
       case measure=>simp [intOf];omega
    ·obtain rfl:k = n:=by omega
     have hki:¬ (k:Int) < (k:Int):=by omega
     have hend:=outW_end (p:=P) HR.out
     have htake:l.take k = l:=List.take_of_length_le (by rw [HN.out];exact Nat.le_refl _)
     rw [htake] at hown ⊢
     have hol:=outW_len (p:=P) HR.out
     have hol2:(outW P l).length ≤ 1001:=by rw [HN.out] at hol;have:=HN.out;omega
     obtain ⟨O,hO⟩:∃ O,outW P l = O:=⟨_,rfl⟩
     rw [hO] at hown hend hol2 ⊢
     have HOWN:=Lib.hid hown
     have HPO:=Lib.hid hpo
     have HBR:=Lib.hid hbr
     have HOL:=Lib.hid hol2
     have hpv:putW P l = true∨putW P l = false:=by cases putW P l <;> simp
     have HEND:=Lib.hid hend
     clear hown hpo hbr hend hol hol2 hO htake
     rcases hpv with hpv | hpv
     ·have hen:=HEND.out
      rw [hpv,if_pos rfl] at hen
      have HEN:=Lib.hid hen
      rw [hpv]
      clear hpv hen
      go_wp2
      go_ret
      exact ⟨_,rfl,by rw [HP.out,← HEN.out];exact HOWN.out.mono (by rw [HG.out];omega),by rw [HG.out];exact HBR.out⟩
     ·have hen:=HEND.out
      rw [hpv,if_neg (by decide)] at hen
      have HEN:=Lib.hid hen
      rw [hpv]
      clear hpv hen
      go_wp2_with (first
       | ((with_reducible refine wpList_plain (o:=⟨some 82,Op.load _ _,_,_,_,_⟩) rfl fun K hK=>?_);(refine HPO.out.at_.wp rfl rfl (hK _ _ ?_)))
       | ((with_reducible refine wpList_plain (o:=⟨some 83,Op.buildSlice _ _ _,_,_,_,_⟩) rfl fun K hK=>?_);(refine RPeer.wp_build1 Tryz.underlying71 (.tmp 82) (RPeer_ok P) rfl rfl fun w9 ho9 hb9 hs9=>hK _ _ ?_);have HO9:=Lib.hid ho9.row;have HB9:=Lib.hid hb9;clear ho9 hb9 hs9)
       | ((with_reducible refine wpList_plain (o:=⟨some 84,Op.call _,_,_,_,_⟩) rfl fun K hK=>?_);(refine (HOWN.out.of_new HB9.out).app Tryz.underlying71 (.tmp 81) (.tmp 83) rfl rfl rfl HO9.out (by have:=HOL.out;simp;omega) (by have:=HPO.out.lt;have:=HB9.out.size;omega) fun v10 w10 ho10 hg10 hu10=>hK _ _ ?_);have HO10:=Lib.hid ho10;have HB10:=Lib.hid ((below_next' HBR.out HB9.out (Nat.le_of_lt HPO.out.lt)).grown hg10 (Nat.le_of_lt (HPO.out.of_new HB9.out).lt) (fun k e=>by have:=(HOWN.out.lt k e).1;omega));clear ho10 hg10 hu10))
      go_ret
      exact ⟨_,rfl,by rw [HP.out,← HEN.out];exact HO10.out.mono (by rw [HG.out];omega),by rw [HG.out];exact HB10.out⟩
end Go.Proofs.YtnohglkilpnjhaaGreatDoor

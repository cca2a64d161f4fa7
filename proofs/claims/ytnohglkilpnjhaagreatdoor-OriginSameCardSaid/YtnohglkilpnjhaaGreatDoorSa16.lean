/- Lemmas that the statement of this claim leans on; their own comments are taken out, for the size of the claim. No condition beyond what each lemma states. -/
import Derived.Test.YtnohglkilpnjhaaGreatDoorSa15
import Derived.Great.BuildSlice
set_option linter.unusedVariables false
set_option linter.unusedSimpArgs false
set_option linter.unusedSectionVars false
namespace Go.Proofs.YtnohglkilpnjhaaGreatDoor
open Go.RowKit
set_option maxRecDepth 100000
theorem ROf_dig {w:World} {g off:Nat} {x:List UInt8 × Value} (h:ROf.At w g off x):DigAt w g off x.1:=⟨h.1.1,fun j hj=>by
 have h1:=h.2.2 j (by show j < 33;omega)
 rw [h1]
 show (x.1.map B8 ++ [x.2])[j]? = _
 rw [List.getElem?_append_left (by simp [h.1.1];omega)]⟩
theorem ROf_val {w:World} {g off:Nat} {x:List UInt8 × Value} (h:ROf.At w g off x):w.cell? ⟨g,off + 32,none⟩ = some x.2:=by
 have h1:=h.2.2 32 (by show 32 < 33;omega)
 rw [h1]
 show (x.1.map B8 ++ [x.2])[32]? = _
 rw [List.getElem?_append_right (by simp [h.1.1])]
 simp [h.1.1]
theorem RTabP.fst {w:World} {r B:Nat} {many most:Int} {v:Value} {L:RefL} {T:TabL} (h:RTabP w r many most B v L T) {i:Nat} {x:List UInt8 × Value} {y:List UInt8 × List PeerL} (hx:L[i]? = some x) (hy:T[i]? = some y):x.1 = y.1:=by
 have:=congrArg (fun l=>l[i]?) h.keys
 simpa [hx,hy] using this
def PlacePost (T:TabL) (d:List UInt8) (w:World) (e:Ending) (w':World):Prop:=∃ (i:Nat) (is:Bool),e = .returned (.tuple #[.int .i64 (i:Int),.bool is])∧PlaceT T d i is∧Below w.heap.size w w'
set_option maxHeartbeats 3200000 in
theorem RPlace_any (r:Nat) (many most:Int) (B:Nat) (v:Value) (L:RefL) (T:TabL) (d:List UInt8) (w:World) (hR:RTabP w r many most B v L T) (hr:Rising kD T) (hdig:∀ x ∈ T,x.1.length = 32) (hlen:T.length ≤ 100000) (h32:d.length = 32) :
  Calls Tryz.prog 65 #[.pointer (some ⟨r,0,none⟩),.agg (d.map B8).toArray] w (PlacePost T d w):=by
 obtain ⟨W,hW⟩:∃ W,w.alloc (.cells (d.map B8).toArray 31) = W:=⟨_,rfl⟩
 have ho:DigO W w.heap.size d:=by rw [← hW];exact digO_new w h32
 have hb:Below w.heap.size w W:=by rw [← hW];exact (Below.refl _ w).alloc (Nat.le_refl _) _
 have hRW:=hR.of_new hb
 obtain ⟨a,c,hv⟩:=hR.own.row.len
 subst hv
 have hLT:=hR.len
 obtain ⟨n,hn⟩:∃ n,T.length = n:=⟨_,rfl⟩
 rw [hLT,hn] at hRW
 have hle:n ≤ 100000:=by omega
 have HW:=Lib.hid hW
 have HO:=Lib.hid ho
 have HB:=Lib.hid hb
 have HR:=Lib.hid hRW
 have HRS:=Lib.hid hr
 have HDG:=Lib.hid hdig
 have H32:=Lib.hid h32
 have HN:=Lib.hid hn
 have HLN:=Lib.hid hLT
 clear hR hr hdig hlen h32 hW ho hb hRW hLT hn
 go_enter Tryz.func65,Tryz.ntmps65
 go_upto_region 1 with (fail)
 rw [HW.out]
 obtain ⟨g,hg⟩:∃ g,w.heap.size = g:=⟨_,rfl⟩
 have HG:=Lib.hid hg
 rw [hg] at HO ⊢
 clear hg
 go_wp2
 go_loopw [6] (fun iv W'=>∃ i:Nat,i ≤ n∧iv = .int .i64 (i:Int)∧(∀ x ∈ T.take i,kD x < (natL d:Int))∧Below W.heap.size W W') (fun iv _=>n - (intOf iv).toNat)
 case atStart=>exact ⟨0,Nat.zero_le _,rfl,(fun x hx=>by cases hx),Below.refl _ _⟩
 case round=>
  obtain ⟨i,hi,rfl,hlow,hbr⟩:=hrel
  have hRr:=HR.out.of_new hbr
  have hc2:=fun w' (h:Grew wr w')=>Grew.cell h hRr.cell2
  have hdg0:DigAt wr g 0 d:=(HO.out.of_new hbr).at_
  have HLOW:=Lib.hid hlow
  have HBR:=Lib.hid hbr
  clear hlow hbr
  by_cases hlt:i < n
  ·have hii:(i:Int) < (n:Int):=by omega
   obtain ⟨y,hy⟩:∃ y,T[i]? = some y:=⟨_,List.getElem?_eq_getElem (by rw [HN.out];exact hlt)⟩
   obtain ⟨x,hx⟩:∃ x,L[i]? = some x:=⟨_,List.getElem?_eq_getElem (by rw [HLN.out,HN.out];exact hlt)⟩
   obtain ⟨b,off,c',hv,hbl,hat⟩:=hRr.own.row.at_ (by rw [HLN.out,HN.out];omega)
   obtain ⟨rfl,rfl⟩:a = some ⟨b,off,none⟩∧c = c':=by cases hv;exact ⟨rfl,rfl⟩
   have hdg1:DigAt wr b (off + i * 33) x.1:=ROf_dig (hat i x hx)
   rw [hRr.fst hx hy] at hdg1
   have hym:=List.mem_of_getElem? hy
   have hy32:=HDG.out y hym
   have hsg:=cmpL_sign y.1 d (by rw [hy32,H32.out])
   have HCC:=Lib.hid (fun w'=>RCompare_any y.1 d w' hy32 H32.out)
   obtain ⟨C,hC⟩:∃ C,cmpL y.1 d = C:=⟨_,rfl⟩
   rw [hC] at hsg HCC
   have hdn:DigAt wr b (off + i * 33) y.1:=hdg1
   have HTK:=Lib.hid (take_snoc_at hy)
   have HY:=Lib.hid hy
   have HY32:=Lib.hid hy32
   have HSG:=Lib.hid hsg
   have hgd:=guard_dig
   have heql:=run_eql_dig y.1 d hy32 H32.out
   clear hv hbl hat hx hy hym hdg1 hRr hC hsg hy32
   by_cases hC0:C < 0
   ·go_upto_region 2 with (fail)
    refine wp_region_grew (by kernel_rfl) (by kernel_rfl) ?_
    repeat (first
     | (go_big_quiet_want;(with_reducible apply quiet_load_at (ty:=31) (x:=.tmp _));rfl;rfl;assumption;go_simp;go_big_quiet_on)
     | (go_big_quiet_want;apply quiet_val;(intro w' hw';go_simp;first | done | rfl);go_simp;go_big_quiet_on)
     | (go_big_quiet_want;apply quiet_call (f:=106);(intro w' hw';go_simp;first | done | rfl);(intro w' hw';exact Grew.call hw' (HCC.out w'));go_simp;go_big_quiet_on)
     | (go_big_quiet_skip))
    refine wpQuiet_nil ?_
    intro w5 hw5
    have HB5:=Lib.hid (below_next HBR.out hw5)
    have hnl:kD y < (natL d:Int):=by
     have h:=HSG.out
     unfold kD
     split at h
     ·omega
     ·split at h <;> omega
    have HNL:=Lib.hid hnl
    clear hw5 hc2 hdg0 hdn hgd heql hnl
    go_wp2
    go_roundw
    case rel=>
     refine ⟨i + 1,by omega,by go_num,fun z hz=>?_,HB5.out⟩
     rw [HTK.out] at hz
     rcases List.mem_append.1 hz with hz | hz
     ·exact HLOW.out z hz
     ·rw [List.mem_singleton.1 hz];exact HNL.out
    case measure=>simp [intOf];omega
   ·go_upto_region 2 with (fail)
    refine wp_region_grew (by kernel_rfl) (by kernel_rfl) ?_
    repeat (first
     | (go_big_quiet_want;(with_reducible apply quiet_load_at (ty:=31) (x:=.tmp _));rfl;rfl;assumption;go_simp;go_big_quiet_on)
     | (go_big_quiet_want;apply quiet_val;(intro w' hw';go_simp;first | done | rfl);go_simp;go_big_quiet_on)
     | (go_big_quiet_want;apply quiet_call (f:=106);(intro w' hw';go_simp;first | done | rfl);(intro w' hw';exact Grew.call hw' (HCC.out w'));go_simp;go_big_quiet_on)
     | (go_big_quiet_skip))
    refine wpQuiet_nil ?_
    intro w5 hw5
    have HB5:=Lib.hid (below_next HBR.out hw5)
    replace hc2:=fun w' (h:Grew w5 w')=>hc2 w' (below_next hw5 h)
    replace hdg0:=hdg0.of_new hw5
    replace hdn:=hdn.of_new hw5
    clear hw5
    go_upto_region 4 with (fail)
    refine wp_region_grew (by kernel_rfl) (by kernel_rfl) ?_
    repeat (first
     | (go_big_quiet_want;(with_reducible apply quiet_load_at (ty:=31) (x:=.tmp _));rfl;rfl;assumption;go_simp;go_big_quiet_on)
     | (go_big_quiet_want;apply quiet_val;(intro w' hw';go_simp;first | done | rfl);go_simp;go_big_quiet_on)
     | (go_big_quiet_skip))
    refine wpQuiet_nil ?_
    intro w6 hw6
    have HB6:=Lib.hid (below_next HB.out (below_next HB5.out hw6))
    have hpl:PlaceT T d i (decide (y.1 = d)):=by
     refine ⟨by rw [HN.out];omega,HLOW.out,fun h=>⟨y.2,?_⟩,fun h z hz=>?_⟩
     ·rw [HY.out];rw [← of_decide_eq_true h]
     ·have hne:=of_decide_eq_false h
      have h1:=HSG.out
      have h2:¬ natL y.1 = natL d:=fun e=>hne (natL_inj _ _ (by rw [HY32.out,H32.out]) e)
      have h3:natL d < natL y.1:=by
       split at h1
       ·omega
       ·omega
      have hs:=split_at HY.out
      have hr2:=HRS.out
      rw [hs] at hr2
      rw [List.drop_eq_getElem_cons (by rw [HN.out];exact hlt)] at hz
      have hye:T[i]'(by rw [HN.out];exact hlt) = y:=by have:=HY.out;rw [List.getElem?_eq_getElem (by rw [HN.out];exact hlt)] at this;exact Option.some.inj this
      rw [hye] at hz
      rcases List.mem_cons.1 hz with rfl | hz
      ·unfold kD;omega
      ·have:=hr2.mid.2.1 z hz
       unfold kD at this ⊢;omega
    have HPL:=Lib.hid hpl
    clear hw6 hc2 hdg0 hdn hgd heql hpl
    go_wp2
    go_ret2
    exact ⟨i,_,rfl,HPL.out,HB6.out⟩
  ·obtain rfl:i = n:=by omega
   have hii:¬ (i:Int) < (i:Int):=by omega
   have hpl:PlaceT T d i false:=⟨by rw [HN.out];exact Nat.le_refl _,HLOW.out,(fun h=>(by cases h)),(fun _ z hz=>(by rw [List.drop_of_length_le (by rw [HN.out];exact Nat.le_refl _)] at hz;cases hz))⟩
   have HPL:=Lib.hid hpl
   clear hpl hRr
   go_upto_region 2 with (fail)
   refine wp_region_grew (by kernel_rfl) (by kernel_rfl) ?_
   repeat (first
    | (go_big_quiet_want;(with_reducible apply quiet_load_at (ty:=31) (x:=.tmp _));rfl;rfl;assumption;go_simp;go_big_quiet_on)
    | (go_big_quiet_want;apply quiet_val;(intro w' hw';go_simp;first | done | rfl);go_simp;go_big_quiet_on)
    | (go_big_quiet_skip))
   refine wpQuiet_nil ?_
   intro w5 hw5
   have HB5:=Lib.hid (below_next HBR.out hw5)
   replace hc2:=fun w' (h:Grew w5 w')=>hc2 w' (below_next hw5 h)
   clear hw5
   go_upto_region 4 with (fail)
   refine wp_region_grew (by kernel_rfl) (by kernel_rfl) ?_
   repeat (first
    | (go_big_quiet_want;(with_reducible apply quiet_load_at (ty:=31) (x:=.tmp _));rfl;rfl;assumption;go_simp;go_big_quiet_on)
    | (go_big_quiet_want;apply quiet_val;(intro w' hw';go_simp;first | done | rfl);go_simp;go_big_quiet_on)
    | (go_big_quiet_skip))
   refine wpQuiet_nil ?_
   intro w6 hw6
   have HB6:=Lib.hid (below_next HB.out (below_next HB5.out hw6))
   clear hw6 hc2 hdg0
   go_wp2
   go_ret2
   exact ⟨i,_,rfl,HPL.out,HB6.out⟩
theorem RIsId_any (n:Int) (w:World):Calls Tryz.prog 87 #[.int .i64 n] w fun e w'=>e = .returned (.bool (within n 1 65536))∧w' = w:=by
 by_cases h1:1 ≤ n
 ·by_cases h2:n ≤ 65536
  ·have e:within n 1 65536 = true:=decide_eq_true ⟨h1,h2⟩
   rw [e]
   clear e
   go_enter Tryz.func87,Tryz.ntmps87
   go_wp2
   go_ret
   exact ⟨rfl,rfl⟩
  ·have e:within n 1 65536 = false:=decide_eq_false (fun h=>h2 h.2)
   rw [e]
   clear e
   go_enter Tryz.func87,Tryz.ntmps87
   go_wp2
   go_ret
   exact ⟨rfl,rfl⟩
 ·have e:within n 1 65536 = false:=decide_eq_false (fun h=>h1 h.1)
  rw [e]
  clear e
  go_enter Tryz.func87,Tryz.ntmps87
  go_wp2
  go_ret
  exact ⟨rfl,rfl⟩
theorem RIsMoment_any (n:Int) (w:World):Calls Tryz.prog 97 #[.int .i64 n] w fun e w'=>e = .returned (.bool (within n 0 1099511627776))∧w' = w:=by
 by_cases h1:0 ≤ n
 ·by_cases h2:n ≤ 1099511627776
  ·have e:within n 0 1099511627776 = true:=decide_eq_true ⟨h1,h2⟩
   rw [e]
   clear e
   go_enter Tryz.func97,Tryz.ntmps97
   go_wp2
   go_ret
   exact ⟨rfl,rfl⟩
  ·have e:within n 0 1099511627776 = false:=decide_eq_false (fun h=>h2 h.2)
   rw [e]
   clear e
   go_enter Tryz.func97,Tryz.ntmps97
   go_wp2
   go_ret
   exact ⟨rfl,rfl⟩
 ·have e:within n 0 1099511627776 = false:=decide_eq_false (fun h=>h1 h.1)
  rw [e]
  clear e
  go_enter Tryz.func97,Tryz.ntmps97
  go_wp2
  go_ret
  exact ⟨rfl,rfl⟩
theorem RIsLife_any (n:Int) (w:World):Calls Tryz.prog 59 #[.int .i64 n] w fun e w'=>e = .returned (.bool (within n 1 1048576))∧w' = w:=by
 by_cases h1:1 ≤ n
 ·by_cases h2:n ≤ 1048576
  ·have e:within n 1 1048576 = true:=decide_eq_true ⟨h1,h2⟩
   rw [e]
   clear e
   go_enter Tryz.func59,Tryz.ntmps59
   go_wp2
   go_ret
   exact ⟨rfl,rfl⟩
  ·have e:within n 1 1048576 = false:=decide_eq_false (fun h=>h2 h.2)
   rw [e]
   clear e
   go_enter Tryz.func59,Tryz.ntmps59
   go_wp2
   go_ret
   exact ⟨rfl,rfl⟩
 ·have e:within n 1 1048576 = false:=decide_eq_false (fun h=>h1 h.1)
  rw [e]
  clear e
  go_enter Tryz.func59,Tryz.ntmps59
  go_wp2
  go_ret
  exact ⟨rfl,rfl⟩
theorem peer_cells {w:World} {g off:Nat} {p:PeerL} (h:RPeer.At w g off p):w.cell? ⟨g,off,none⟩ = some (.int .i64 p.id)∧w.cell? ⟨g,off + 1,none⟩ = some (.int .i64 p.till)∧w.cell? ⟨g,off + 2,none⟩ = some (.bool p.seed):=
 ⟨h.2.2 0 (by decide),h.2.2 1 (by decide),h.2.2 2 (by decide)⟩
set_option maxHeartbeats 800000 in
theorem RLast_any (v:Value) (l:List PeerL) (w:World) (hl:RPeer.Row w v l) :
  Calls Tryz.prog 152 #[v] w fun e w'=>e = .returned (.int .i64 (lastP l))∧w' = w:=by
 obtain ⟨a,c,hv⟩:=hl.len
 subst hv
 have hle:=hl.le
 have HL:=Lib.hid hl
 clear hl
 go_enter Tryz.func152,Tryz.ntmps152
 go_wp2
 go_loopw [3,4] (fun nv iv W=>∃ k:Nat,k ≤ l.length∧iv = .int .i64 (k:Int)∧nv = .int .i64 (lastP (l.take k))∧W = w) (fun _ iv _=>l.length - (intOf iv).toNat)
 case atStart=>exact ⟨0,Nat.zero_le _,rfl,rfl,rfl⟩
 case round=>
  obtain ⟨k,hk,rfl,rfl,rfl⟩:=hrel
  by_cases hlt:k < l.length
  ·obtain ⟨b,off,c',hv,hbl,hat⟩:=HL.out.at_ (by omega)
   obtain ⟨rfl,rfl⟩:a = some ⟨b,off,none⟩∧c = c':=by cases hv;exact ⟨rfl,rfl⟩
   obtain ⟨p,hp⟩:∃ p,l[k]? = some p:=⟨_,List.getElem?_eq_getElem hlt⟩
   have hc1:=(peer_cells (hat k p hp)).2.1
   replace hc1:World.cell? _ ⟨b,off + k * 3 + 1,none⟩ = some (.int .i64 p.till):=hc1
   have hst:=lastP_take hp
   have HST:=Lib.hid hst
   obtain ⟨L,hL⟩:∃ L,lastP (l.take k) = L:=⟨_,rfl⟩
   rw [hL] at hst ⊢
   have HST:=Lib.hid hst
   have hki:(k:Int) < (l.length:Int):=by omega
   clear hv hbl hat hp hst hL
   go_wp2
   all_goals
    go_roundw
    case rel=>exact ⟨k + 1,by omega,by go_num,by rw [HST.out] <;> first | rfl | (congr 1;omega),trivial⟩
    case measure=>simp [intOf];omega
  ·obtain rfl:k = l.length:=by omega
   rw [List.take_length]
   obtain ⟨L,hL⟩:∃ L,lastP l = L:=⟨_,rfl⟩
   rw [hL]
   have hki:¬ (l.length:Int) < (l.length:Int):=by omega
   have HLQ:=Lib.hid hL
   clear hL
   go_wp2
   go_ret
   exact ⟨ret_int HLQ.out.symm,rfl⟩
theorem RLastB_any (v:Value) (l:List PeerL) (w:World) (hl:RPeer.Row w v l):Calls Tryz.prog 152 #[v] w fun e w'=>e = .returned (.int .i64 (lastP l))∧Below w.heap.size w w':=
 (RLast_any v l w hl).mono fun e w' ⟨h1,h2⟩=>⟨h1,by rw [h2];exact Below.refl _ _⟩
def FirstI (w:World) (l:List PeerL) (av iv:Value) (W:World):Prop:=∃ k a:Nat,iv = .int .i64 (k:Int)∧av = .int .i64 (a:Int)∧AtP l k a∧Below w.heap.size w W
set_option maxHeartbeats 1600000 in
theorem RFirst_any (v:Value) (l:List PeerL) (w:World) (hl:RPeer.Row w v l) (h0:0 < l.length) :
  Calls Tryz.prog 151 #[v] w fun e w'=>∃ a:Nat,e = .returned (.int .i64 (a:Int))∧AtP l l.length a∧Below w.heap.size w w':=by
 obtain ⟨va,c,hv⟩:=hl.len
 subst hv
 have hle:=hl.le
 have HL:=Lib.hid hl
 clear hl
 go_enter Tryz.func151,Tryz.ntmps151
 go_wp2
 go_loopw [3,4] (fun av iv W=>FirstI w l av iv W) (fun _ iv _=>l.length - (intOf iv).toNat)
 case atStart=>exact ⟨1,0,rfl,rfl,AtP.start h0,Below.refl _ _⟩
 case round=>
  obtain ⟨k,a,rfl,rfl,hat,hb⟩:=hrel
  have hak:=hat.1
  by_cases hlt:k < l.length
  ·obtain ⟨b,off,c',hv,hbl,hc⟩:=HL.out.at_ (by omega)
   obtain ⟨rfl,rfl⟩:va = some ⟨b,off,none⟩∧c = c':=by cases hv;exact ⟨rfl,rfl⟩
   obtain ⟨y,hy⟩:∃ p,l[k]? = some p:=⟨_,List.getElem?_eq_getElem hlt⟩
   obtain ⟨x,hx⟩:∃ p,l[a]? = some p:=⟨_,List.getElem?_eq_getElem (by omega)⟩
   have hy1:=peer_cells ((hc k y hy).of_new hb)
   have hx1:=peer_cells ((hc a x hx).of_new hb)
   have c1:=fun w' (h:Grew wr w')=>(Grew.cell h hy1.1:w'.cell? ⟨b,off + k * 3,none⟩ = _)
   have c2:=fun w' (h:Grew wr w')=>(Grew.cell h hy1.2.1:w'.cell? ⟨b,off + k * 3 + 1,none⟩ = _)
   have c3:=fun w' (h:Grew wr w')=>(Grew.cell h hx1.1:w'.cell? ⟨b,off + a * 3,none⟩ = _)
   have c4:=fun w' (h:Grew wr w')=>(Grew.cell h hx1.2.1:w'.cell? ⟨b,off + a * 3 + 1,none⟩ = _)
   have hst:=hat.step hx hy
   have hki:(k:Int) < (l.length:Int):=by omega
   have hai:(a:Int) < (l.length:Int):=by omega
   have HST:=Lib.hid hst
   have HB:=Lib.hid hb
   clear hv hbl hc hx hy hy1 hx1 hst hat hb
   go_upto_region 5 with (fail)
   by_cases g1:y.till < x.till
   ·have hs2:=HST.out
    rw [if_pos (.inl g1)] at hs2
    have HS2:=Lib.hid hs2
    clear hs2
    refine wp_region_grew (by kernel_rfl) (by kernel_rfl) ?_
    repeat (first
     | (go_big_quiet_want;(with_reducible apply quiet_load_at (ty:=31) (x:=.tmp _));rfl;rfl;assumption;go_simp;go_big_quiet_on)
     | (go_big_quiet_want;apply quiet_val;(intro w' hw';go_simp;first | done | rfl);go_simp;go_big_quiet_on)
     | (go_big_quiet_skip))
    refine wpQuiet_nil ?_
    intro w5 hw5
    have HB5:=Lib.hid (below_next HB.out hw5)
    clear hw5 c1 c2 c3 c4
    go_wp2
    go_roundw
    case rel=>exact ⟨k + 1,k,by go_num,rfl,HS2.out,HB5.out⟩
    case measure=>simp [intOf];omega
   ·by_cases g2:y.till = x.till
    ·have e2:(y.till == x.till) = true:=beq_iff_eq.2 g2
     by_cases g3:x.id < y.id
     ·have hs2:=HST.out
      rw [if_pos (.inr ⟨g2,g3⟩)] at hs2
      have HS2:=Lib.hid hs2
      clear hs2 g2
      refine wp_region_grew (by kernel_rfl) (by kernel_rfl) ?_
      repeat (first
       | (go_big_quiet_want;(with_reducible apply quiet_load_at (ty:=31) (x:=.tmp _));rfl;rfl;assumption;go_simp;go_big_quiet_on)
       | (go_big_quiet_want;apply quiet_val;(intro w' hw';go_simp;first | done | rfl);go_simp;go_big_quiet_on)
       | (go_big_quiet_skip))
      refine wpQuiet_nil ?_
      intro w5 hw5
      have HB5:=Lib.hid (below_next HB.out hw5)
      clear hw5 c1 c2 c3 c4
      go_wp2
      go_roundw
      case rel=>exact ⟨k + 1,k,by go_num,rfl,HS2.out,HB5.out⟩
      case measure=>simp [intOf];omega
     ·have hs2:=HST.out
      rw [if_neg (fun h=>h.elim g1 (fun h=>g3 h.2))] at hs2
      have HS2:=Lib.hid hs2
      clear hs2 g2
      refine wp_region_grew (by kernel_rfl) (by kernel_rfl) ?_
      repeat (first
       | (go_big_quiet_want;(with_reducible apply quiet_load_at (ty:=31) (x:=.tmp _));rfl;rfl;assumption;go_simp;go_big_quiet_on)
       | (go_big_quiet_want;apply quiet_val;(intro w' hw';go_simp;first | done | rfl);go_simp;go_big_quiet_on)
       | (go_big_quiet_skip))
      refine wpQuiet_nil ?_
      intro w5 hw5
      have HB5:=Lib.hid (below_next HB.out hw5)
      clear hw5 c1 c2 c3 c4
      go_wp2
      go_roundw
      case rel=>exact ⟨k + 1,a,by go_num,rfl,HS2.out,HB5.out⟩
      case measure=>simp [intOf];omega
    ·have e2:(y.till == x.till) = false:=beq_eq_false_iff_ne.2 g2
     have hs2:=HST.out
     rw [if_neg (fun h=>h.elim g1 (fun h=>g2 h.1))] at hs2
     have HS2:=Lib.hid hs2
     clear hs2
     refine wp_region_grew (by kernel_rfl) (by kernel_rfl) ?_
     repeat (first
      | (go_big_quiet_want;(with_reducible apply quiet_load_at (ty:=31) (x:=.tmp _));rfl;rfl;assumption;go_simp;go_big_quiet_on)
      | (go_big_quiet_want;apply quiet_val;(intro w' hw';go_simp;first | done | rfl);go_simp;go_big_quiet_on)
      | (go_big_quiet_skip))
     refine wpQuiet_nil ?_
     intro w5 hw5
     have HB5:=Lib.hid (below_next HB.out hw5)
     clear hw5 c1 c2 c3 c4
     go_wp2
     go_roundw
     case rel=>exact ⟨k + 1,a,by go_num,rfl,HS2.out,HB5.out⟩
     case measure=>simp [intOf];omega
  ·obtain rfl:k = l.length:=by have:=hat.2.1;omega
   have hki:¬ (l.length:Int) < (l.length:Int):=by omega
   go_wp2
   go_ret
   exact ⟨a,rfl,hat,hb⟩
end Go.Proofs.YtnohglkilpnjhaaGreatDoor
namespace Go.Proofs.YtnohglkilpnjhaaGreatDoor
open Go.RowKit
def earlyOp2 (o:Oper):Bool:=o.guard.isNone && match o.op with
 | .move _ | .assign _ | .load .. | .indexAddr .. | .fieldAddr .. | .convert .. | .slice .. | .extract .. | .nilCheck _ | .binOp .. | .unOp .. | .build .. | .lookup .. | .field .. | .index ..=>true
 | _=>false
theorem early_value2 {P:Program} {o:Oper} {ρ:Operand→Value} {w w':World} {r:Next} (h:earlyOp2 o = true) (hr:(execOp ρ o).run P w = .ok r w'):∃ u,r = .value u:=by
 cases ho:earlyOp o with
 | true=>exact early_value ho hr
 | false=>
  unfold earlyOp2 at h
  unfold earlyOp at ho
  unfold execOp at hr
  cases hop:o.op <;> simp [hop] at h ho <;> simp only [hop] at hr
  all_goals first
   | (rw [h] at ho;simp at ho;done)
   | exact only_value hr
   | (simp [Sem.run_pure] at hr;exact ⟨_,hr.1.symm⟩)
section
variable {ro:Option Nat} {m:Nat} {P:Program} {ops:Array Oper} {md:Region.Mode} {C:World→Prop} {D:Nat→Bool} {Q:Exit→Act→World→Prop}
theorem still_of_quiet2 {o:Oper} {v:Value} {a:Act} (he:earlyOp2 o = true) (hq:∀ w,C w→o.quietAt P a C w v):StillIn P ops C o v a:=by
 have hg:o.guard = none:=by
  unfold earlyOp2 at he
  simp only [Bool.and_eq_true,Option.isNone_iff_eq_none] at he
  exact he.1
 refine ⟨by simp [Region.wanted,hg],fun w hw=>?_⟩
 have h:=hq w hw
 unfold Oper.quietAt at h
 cases hr:(execOp a.eval o).run P w with
 | ok r w'=>
  rw [hr] at h
  obtain ⟨u,rfl⟩:=early_value2 he hr
  simp only [Oper.quietUpon] at h
  rw [h.1,h.2]
 | halt x w'=>rw [hr] at h;simp [Oper.quietUpon] at h
def opsAt (l:List Oper) (is:List Nat):List Oper:=is.flatMap fun i=>(l[i]?).toList
def listedI:List Nat→Array Bool→Array Bool
 | [],listed=>listed
 | p :: ps,listed=>listedI ps (listed.setIfInBounds p true)
def earlyI (md:Region.Mode) (ops:Array Oper) (D:Nat→Bool):List Nat→Array Bool→Bool
 | [],_=>true
 | p :: ps,listed=>(Region.ready md ops listed).contains p && Region.free md ops listed p && (match ops[p]? with | some o=>earlyOp2 o | none=>false) &&
   ((List.range ops.size).all fun j=>!D j || waitsB md ops p ops.size j) && earlyI md ops D ps (listed.setIfInBounds p true)
def seqI (md:Region.Mode) (ops:Array Oper):List Nat→Array Bool→Bool
 | [],listed=>decide (Region.ready md ops listed = [])
 | p :: ps,listed=>decide (Region.ready md ops listed = [p]) && seqI md ops ps (listed.setIfInBounds p true)
theorem opsAt_cons {l:List Oper} {p:Nat} {ps:List Nat} {o:Oper} (h:l[p]? = some o):opsAt l (p :: ps) = o :: opsAt l ps:=by
 unfold opsAt
 rw [List.flatMap_cons,h]
 rfl
theorem wpAnyS_earlyI (hnd:noDefer ops = true) (hsel:Region.noSelect ops = true) (hQ:∀ c (a:Act) (d:Option Tmp) (v:Value) w,Q (.panic c) (a.put d v) w→Q (.panic c) a w) (hD:∀ j,ops.size ≤ j→D j = false) {R:Act→Prop} {g:Nat} (ps:List Nat) :
  ∀ (listed:Array Bool) (a:Act) (w:World),listed.size = ops.size→ClosedL md ops listed→C w→earlyI md ops D ps listed = true →
   wpQuiet P ops C R (opsAt ops.toList ps) a→(∀ a' w,C w→R a'→wpAnyS ro m P md ops C D Q g (listedI ps listed) a' w)→wpAnyS ro m P md ops C D Q (ps.length + g) listed a w:=by
 induction ps with
 | nil=>
  intro listed a w _ _ hC _ h hL
  rw [List.length_nil,Nat.zero_add]
  exact hL a w hC h
 | cons p ps ih=>
  intro listed a w hsz hcl hC hB h hL
  simp only [earlyI,Bool.and_eq_true] at hB
  obtain ⟨⟨⟨⟨hr,hf⟩,he⟩,hw⟩,hB⟩:=hB
  have hr':p ∈ Region.ready md ops listed:=by simpa using hr
  obtain ⟨o,h0⟩:∃ o,ops[p]? = some o:=by
   cases q:ops[p]? with
   | some o=>exact ⟨o,rfl⟩
   | none=>rw [q] at he;cases he
  rw [h0] at he
  rw [opsAt_cons (o:=o) (by simpa using h0)] at h
  have hg:o.guard = none:=by
   have:=he
   unfold earlyOp2 at this
   simp only [Bool.and_eq_true,Option.isNone_iff_eq_none] at this
   exact this.1
  have hq:o.quiet P a C (wpQuiet P ops C R (opsAt ops.toList ps)):=by
   have h':if Region.wanted o (yielded ops a.tmps) then o.quiet P a C (wpQuiet P ops C R (opsAt ops.toList ps)) else wpQuiet P ops C R (opsAt ops.toList ps) (a.put o.dst undef):=h
   rwa [if_pos (by simp [Region.wanted,hg])] at h'
  obtain ⟨v,hv,hK⟩:=hq
  have hDi:∀ j,D j = true→WaitsT md ops p j:=fun j hj=>by
   have hjs:j < ops.size:=by
    rcases Nat.lt_or_ge j ops.size with h | h
    ·exact h
    ·rw [hD j h] at hj;cases hj
   have:=List.all_eq_true.1 hw j (List.mem_range.2 hjs)
   simp only [hj,Bool.not_true,Bool.false_or] at this
   exact waitsB_spec _ _ this
  rw [List.length_cons,show ps.length + 1 + g = (ps.length + g) + 1 by omega]
  refine wpAnyS_take hnd h0 (Region.noSelect_spec hsel) hQ hDi (ps.length + g) listed a w hsz hcl (Region.free_spec h0 hf) hr' (still_of_quiet2 he hv) hC ?_
  exact ih _ _ w (by simpa using hsz) (hcl.set hr' hsz) hC hB hK hL
theorem ready_get {p:Nat} {listed:Array Bool} (h:Region.ready md ops listed = [p]):∃ o,ops[p]? = some o:=by
 obtain ⟨_,o,ho,_⟩:=mem_ready.1 (show p ∈ Region.ready md ops listed by rw [h];simp)
 exact ⟨o,ho⟩
theorem wpAnyS_restI (hD:∀ j,D j = true→True):∀ (rests:List Nat) (listed:Array Bool) (a:Act) (w:World),(∀ j ∈ rests,D j = true)→seqI md ops rests listed = true →
  wpListIn (WF ro) m P ops Q (opsAt ops.toList rests) a w→wpAnyS ro m P md ops C D Q rests.length listed a w
 | [],listed,a,w,_,hB,h=>⟨by simpa [seqI] using hB,h⟩
 | p :: ps,listed,a,w,hd,hB,h=>by
  simp only [seqI,Bool.and_eq_true,decide_eq_true_eq] at hB
  obtain ⟨o,h0⟩:=ready_get hB.1
  rw [opsAt_cons (o:=o) (by simpa using h0)] at h
  refine ⟨fun h1=>(by rw [hB.1] at h1;cases h1),fun i hi=>?_⟩
  rw [hB.1] at hi
  obtain rfl:i = p:=by simpa using hi
  have hdi:D i = true:=hd i (by simp)
  have hrec:=fun a' w' h'=>wpAnyS_restI hD ps (listed.setIfInBounds i true) a' w' (fun j hj=>hd j (by simp [hj])) hB.2 h'
  unfold wpOpIn
  simp only [h0]
  unfold wpListIn at h
  split
  ·rename_i hq
   rw [if_pos hq] at h
   exact Oper.wpIn_mono (fun a' w' h'=>⟨fun e=>(by rw [hdi] at e;cases e),hrec a' w' h'⟩) h
  ·rename_i hq
   rw [if_neg hq] at h
   exact ⟨fun _ _=>trivial,fun e=>(by rw [hdi] at e;cases e),hrec _ w h.2⟩
theorem wpAnyS_lateI (hnd:noDefer ops = true):∀ (mids rests:List Nat) (listed:Array Bool) (a:Act) (w:World),(∀ j ∈ rests,D j = true)→seqI md ops (mids ++ rests) listed = true→C w →
  LateL ro m P ops C Q (opsAt ops.toList mids) (opsAt ops.toList rests) a w→wpAnyS ro m P md ops C D Q (mids.length + rests.length) listed a w
 | [],rests,listed,a,w,hd,hB,hC,h=>by
  rw [List.length_nil,Nat.zero_add]
  exact wpAnyS_restI (fun _ _=>trivial) rests listed a w hd hB h
 | p :: ps,rests,listed,a,w,hd,hB,hC,h=>by
  simp only [List.cons_append,seqI,Bool.and_eq_true,decide_eq_true_eq] at hB
  obtain ⟨o,h0⟩:=ready_get hB.1
  rw [opsAt_cons (o:=o) (by simpa using h0)] at h
  rw [List.length_cons,show ps.length + 1 + rests.length = (ps.length + rests.length) + 1 by omega]
  refine ⟨fun h1=>(by rw [hB.1] at h1;cases h1),fun i hi=>?_⟩
  rw [hB.1] at hi
  obtain rfl:i = p:=by simpa using hi
  have hrec:=fun a' w' hC' h'=>wpAnyS_lateI hnd ps rests (listed.setIfInBounds i true) a' w' hd hB.2 hC' h'
  unfold wpOpIn
  simp only [h0]
  unfold LateL at h
  split
  ·rename_i hq
   rw [if_pos hq] at h
   exact wpIn_of_wp (noDefer_spec hnd h0) (Oper.wp_mono (fun a' w' h'=>⟨fun _=>h'.1,hrec a' w' h'.1 h'.2⟩) h)
  ·rename_i hq
   rw [if_neg hq] at h
   exact ⟨fun _ _=>trivial,fun _=>hC,hrec _ w hC h⟩
def mixB (l:List Oper) (hs ts1 ts2:List Nat):Bool:=
 Region.noSelect l.toArray && noDefer l.toArray && decide (hs.length + (ts1.length + ts2.length) = l.length) && (ts2.all fun j=>decide (j < l.length)) &&
  earlyI .any l.toArray (fun j=>ts2.contains j) hs (Array.replicate l.length false) && seqI .any l.toArray (ts1 ++ ts2) (listedI hs (Array.replicate l.length false))
theorem wpIn_region_mix {id:Nat} {a:Act} {w:World} {l:List Oper} (hs ts1 ts2:List Nat) (hm:P.follows .mixedOrders = true) (hB:mixB l hs ts1 ts2 = true)
  (hC:C { w with drawn:=w.drawn + 1 }) (hQ:∀ c (a:Act) (d:Option Tmp) (v:Value) w,Q (.panic c) (a.put d v) w→Q (.panic c) a w)
  (h:wpQuiet P l.toArray C (fun a'=>∀ w',C w'→LateL ro m P l.toArray C Q (opsAt l ts1) (opsAt l ts2) a' w') (opsAt l hs) a) :
  (Code.region id l.toArray true).wpIn (WF ro) m P Q a w:=by
 simp only [mixB,Bool.and_eq_true,decide_eq_true_eq] at hB
 obtain ⟨⟨⟨⟨⟨hsel,hnd⟩,hlen⟩,hlt⟩,hearly⟩,hseq⟩:=hB
 have hsz:l.toArray.size = l.length:=by simp
 refine wpIn_region_any hm ?_
 rw [hsz,← hlen]
 refine wpAnyS_any (C:=C) (D:=fun j=>ts2.contains j) _ _ _ _ ?_
 refine wpAnyS_earlyI (R:=fun a'=>∀ w',C w'→LateL ro m P l.toArray C Q (opsAt l ts1) (opsAt l ts2) a' w') hnd hsel hQ (fun j hj=>?_) hs (Array.replicate (hs.length + (ts1.length + ts2.length)) false) a _ (by simp [hlen]) (fun j oj _ hl=>(by rw [getD_replicate_false] at hl;cases hl)) hC (by rw [hlen];exact hearly) h (fun a' w' hw' hR=>?_)
 ·cases hc:ts2.contains j with
  | false=>rfl
  | true=>
   have:=List.all_eq_true.1 hlt j (by simpa using hc)
   simp only [decide_eq_true_eq] at this
   omega
 ·exact wpAnyS_lateI hnd ts1 ts2 _ a' w' (fun j hj=>by simpa using hj) (by rw [hlen];exact hseq) hw' (hR w' hw')
end
end Go.Proofs.YtnohglkilpnjhaaGreatDoor
namespace Go.Proofs.YtnohglkilpnjhaaGreatDoor
open Go.RowKit
set_option maxRecDepth 100000
section
variable {e se:TypeId} {α:Type} {R:RecT e α} {w:World}
theorem RecT.own_empty (R:RecT e α) (w:World):R.Own (w.alloc (.cells #[] e)) w.heap.size (.slice (some ⟨w.heap.size,0,none⟩) 0 0) []:=
 ⟨(fun x hx=>by cases hx),by simp [RecT.flat],.inr ⟨w.heap.size,0,#[],rfl,Nat.le_refl _,heap_alloc_new w _,Nat.le_refl _,by unfold maxLen;omega,by simp,by simp [RecT.flat]⟩⟩
theorem RecT.wp_build0 (R:RecT e α) (hs:Tryz.prog.underlying se = some (.slice e)) {o:Oper} {a:Act} {K:Act→World→Prop} {Q:Exit→Act→World→Prop} (ho:o.op = .buildSlice se 0 #[])
  (hK:∀ w',R.Own w' w.heap.size (.slice (some ⟨w.heap.size,0,none⟩) 0 0) []→Below w.heap.size w w'→w'.heap.size = w.heap.size + 1→K (a.put o.dst (.slice (some ⟨w.heap.size,0,none⟩) 0 0)) w'):o.wp Tryz.prog a w K Q:=by
 obtain ⟨i,hi,hz,hsize,hby⟩:=info_parts R.info
 have hrun:(Instr.buildSlice se 0 #[]).run Tryz.prog w = .ok (.slice (some ⟨w.heap.size,0,none⟩) 0 0) (w.alloc (.cells #[] e)):=by
  have h0:Array.range 0 = #[]:=by first | decide | simp | rfl
  simp [h0,Instr.buildSlice,run_underlying hs,sizeOf,typeInfo,hi,hsize,Instr.fill,newRow,Sem.run_bind,Sem.run_pure,Result.andThen]
 unfold Oper.wp execOp
 simp only [ho,List.map_toArray,List.map_nil,Sem.run_bind,hrun,Result.andThen_ok,Sem.run_pure]
 exact hK _ (RecT.own_empty R w) ((Below.refl _ w).alloc (Nat.le_refl _) _) (by simp)
end
set_option maxHeartbeats 1600000 in
theorem RCutPeer_any (v:Value) (l:List PeerL) (i:Nat) (w:World) (hl:RPeer.Row w v l) (hi:i < l.length) (hlen:l.length ≤ 100000) :
  Calls Tryz.prog 150 #[v,.int .i64 (i:Int)] w fun e w'=>∃ v',e = .returned v'∧RPeer.Own w' w.heap.size v' (l.take i ++ l.drop (i + 1))∧Below w.heap.size w w':=by
 obtain ⟨v1,hs1,hr1,_⟩:=hl.part Tryz.underlying71 .none (some (.int .i64 (i:Int))) 0 i (Nat.zero_le _) (by omega) (.inl ⟨rfl,rfl⟩) (.inr ⟨_,rfl⟩)
 obtain ⟨v2,hs2,hr2,_⟩:=hl.part Tryz.underlying71 (some (.int .i64 ((i + 1:Nat):Int))) .none (i + 1) l.length (by omega) (Nat.le_refl _) (.inr ⟨_,rfl⟩) (.inl ⟨rfl,rfl⟩)
 rw [List.drop_zero,Nat.sub_zero] at hr1
 rw [List.take_of_length_le (by simp)] at hr2
 rw [show ((i + 1:Nat):Int) = (i:Int) + 1 by omega] at hs2
 have hw:IntKind.i64.wrap ((i:Int) + 1) = (i:Int) + 1:=by rw [IntKind.wrap_i64];omega
 have HL:=Lib.hid hl
 have HR1:=Lib.hid hr1
 have HR2:=Lib.hid hr2
 have HI:=Lib.hid hi
 have HLEN:=Lib.hid hlen
 clear hl hr1 hr2 hi hlen
 go_enter Tryz.func150,Tryz.ntmps150
 go_upto_region 1 with (fail)
 refine (wpIn_wide (n:=5)).1 ?_
 refine wpIn_region_mix (ro:=none) (C:=Grew w) [1,2,3,5,6,7,8] [0,4] [9,10] (by kernel_rfl) (by kernel_rfl) (Grew.start _) (fun c a d v w h=>by cases d <;> exact h) ?_
 simp only [opsAt,List.flatMap_cons,List.flatMap_nil,List.getElem?_cons_zero,List.getElem?_cons_succ,Option.toList_some,List.cons_append,List.nil_append]
 go_simp
 repeat (first
  | (go_big_quiet_want;apply quiet_val;(intro w' hw';go_simp;first | done | rfl);go_simp;go_big_quiet_on)
  | (go_big_quiet_skip))
 refine wpQuiet_nil ?_
 intro w5 hw5
 have HR1':=Lib.hid (HR1.out.of_new hw5)
 have HR2':=Lib.hid (HR2.out.of_new hw5)
 refine LateL.cons rfl (RPeer.wp_build0 Tryz.underlying71 rfl ?_)
 intro w6 ho6 hb6 hs6
 have hw6:Grew w w6:=below_next hw5 hb6
 refine ⟨hw6,?_⟩
 refine LateL.cons rfl (ho6.app Tryz.underlying71 (.tmp 5) (.tmp 8) rfl rfl rfl (HR1'.out.of_new hb6) (by have:=HLEN.out;simp;omega) (by omega) ?_)
 intro v7 w7 ho7 hg7 hu7
 have hw7:Grew w w7:=below_next hw5 (hb6.grown hg7 (by omega) (fun k e=>by cases e;exact Nat.le_refl _))
 refine ⟨hw7,?_⟩
 refine LateL.nil ?_
 rw [wF_none]
 refine wpListIn_of_wp (ro:=none) rfl (fun c hc=>by cases hc) (ho7.app Tryz.underlying71 (.tmp 9) (.tmp 13) rfl rfl rfl (HR2.out.of_new hw7) (by have:=HLEN.out;simp;omega) (by have:=hw7.size;have:=hw5.size;have:=hg7.size;omega) ?_)
 intro v8 w8 ho8 hg8 hu8
 have hw8:Below w.heap.size w w8:=hw7.grown hg8 hw7.size (fun k e=>by have:=(ho7.lt k e).1;have:=hw5.size;omega)
 have ho8':RPeer.Own w8 w.heap.size v8 (l.take i ++ l.drop (i + 1)):=by
  have:=ho8.mono (base':=w.heap.size) hw5.size
  simpa using this
 have HO8:=Lib.hid ho8'
 have HW8:=Lib.hid hw8
 clear hw5 ho6 hb6 hs6 hw6 ho7 hg7 hu7 hw7 ho8 hg8 hu8 hw8 ho8'
 rw [wF_none]
 gi_wp2
 go_wp2
 go_ret
 exact ⟨_,rfl,HO8.out,HW8.out⟩
theorem cut_get {α:Type} {l:List α} {i:Nat} (h:i < l.length) (j:Nat):(l.take i ++ l.drop (i + 1))[j]? = if j < i then l[j]? else l[j + 1]?:=by
 rw [List.getElem?_append]
 have e:(l.take i).length = i:=by simp;omega
 rw [e]
 by_cases hj:j < i
 ·rw [if_pos hj,if_pos hj,List.getElem?_take,if_pos hj]
 ·rw [if_neg hj,if_neg hj,List.getElem?_drop]
  congr 1;omega
theorem map_cut {α β:Type} (f:α→β) (l:List α) (i:Nat):(l.take i ++ l.drop (i + 1)).map f = (l.map f).take i ++ (l.map f).drop (i + 1):=by
 rw [List.map_append,List.map_take,List.map_drop]
theorem RTabP.put {w w' W:World} {r B:Nat} {many most:Int} {v v':Value} {L L':RefL} {T T':TabL} (h:RTabP w r many most B v L T) (hw:Below w.heap.size w w') (ho:ROf.Own w' w.heap.size v' L') (hk:L'.map (·.1) = T'.map (·.1))
  (hr:∀ (i:Nat) (x:List UInt8 × Value) (y:List UInt8 × List PeerL),L'[i]? = some x→T'[i]? = some y→RPeer.Own w' B x.2 y.2) (hW:W = w'.setCell ⟨r,2,none⟩ v'):RTabP W r many most B v' L' T'∧RStp r v w W:=by
 have hlt:=h.lt
 have hBr:=h.base
 have hr1:w'.heap[r]? = some (.cells #[.int .i64 many,.int .i64 most,v] 144 (0,0)):=(hw.block _ hlt).trans h.tab
 have hoth:∀ k,k ≠ r→W.heap[k]? = w'.heap[k]?:=fun k hk=>by subst hW;exact Below.heap_setCell _ _ _ _ hk
 refine ⟨⟨?_,h.base,(ho.kept fun k e=>hoth k (fun q=>?_)).mono (by omega),hk,fun i x y hx hy=>(hr i x y hx hy).kept fun k e=>hoth k (fun q=>?_)⟩,?_⟩
 ·subst hW
  obtain ⟨hl,hkk⟩:=Array.getElem?_eq_some_iff.1 hr1
  show (w'.heap.modify r _)[r]? = _
  rw [Array.getElem?_eq_getElem (by rw [Array.size_modify];exact hl),Array.getElem_modify_self,hkk]
  rfl
 ·have:=(ho.lt k e).1;omega
 ·subst q
  obtain ⟨cur,h1⟩:=(hr i x y hx hy).block e
  rw [hr1] at h1;cases h1
 ·have h1:Kept (fun k=>k ≠ r∧v.ownBlock ≠ some k) w w':=(Kept.refl _ w).below hw
  refine ⟨?_,?_,?_,?_,fun k hk hu=>?_⟩
  ·subst hW;exact h1.os
  ·subst hW;exact h1.tape
  ·subst hW;exact h1.output
  ·subst hW;simpa using h1.size
  ·exact (hoth k hu.1).trans (h1.block k hk hu)
def RCutPost (w:World) (r:Nat) (many most:Int) (B:Nat) (v:Value) (T':TabL) (e:Ending) (w':World):Prop:=∃ v' L',e = .returned (.tuple #[])∧RTabP w' r many most B v' L' T'∧RStp r v w w'∧∀ k,v'.ownBlock = some k→w.heap.size ≤ k
set_option maxHeartbeats 1600000 in
theorem RCut_any (r:Nat) (many most:Int) (B:Nat) (v:Value) (L:RefL) (T:TabL) (i:Nat) (w:World) (hR:RTabP w r many most B v L T) (hi:i < T.length) (hlen:T.length ≤ 100000) :
  Calls Tryz.prog 153 #[.pointer (some ⟨r,0,none⟩),.int .i64 (i:Int)] w (RCutPost w r many most B v (T.take i ++ T.drop (i + 1))):=by
 have hLT:=hR.len
 have hl:=hR.own.row
 obtain ⟨v1,hs1,hr1,_⟩:=hl.part Tryz.underlying142 .none (some (.int .i64 (i:Int))) 0 i (Nat.zero_le _) (by omega) (.inl ⟨rfl,rfl⟩) (.inr ⟨_,rfl⟩)
 obtain ⟨v2,hs2,hr2,_⟩:=hl.part Tryz.underlying142 (some (.int .i64 ((i + 1:Nat):Int))) .none (i + 1) L.length (by omega) (Nat.le_refl _) (.inr ⟨_,rfl⟩) (.inl ⟨rfl,rfl⟩)
 rw [List.drop_zero,Nat.sub_zero] at hr1
 rw [List.take_of_length_le (by simp)] at hr2
 rw [show ((i + 1:Nat):Int) = (i:Int) + 1 by omega] at hs2
 have hw:IntKind.i64.wrap ((i:Int) + 1) = (i:Int) + 1:=by rw [IntKind.wrap_i64];omega
 have hc2:=fun w' (h:Grew w w')=>Grew.cell h hR.cell2
 have HR:=Lib.hid hR
 have HR1:=Lib.hid hr1
 have HR2:=Lib.hid hr2
 have HI:=Lib.hid hi
 have HLEN:=Lib.hid hlen
 have HLT:=Lib.hid hLT
 clear hR hl hr1 hr2 hi hlen hLT
 go_enter Tryz.func153,Tryz.ntmps153
 refine (wpIn_wide (n:=5)).1 ?_
 refine wpIn_region_mix (ro:=none) (C:=Grew w) [0,2,3,4,5,6,7,9,10,11,12,13,14,15] [1,8,16] [17,18,19] (by kernel_rfl) (by kernel_rfl) (Grew.start _) (fun c a d v w h=>by cases d <;> exact h) ?_
 simp only [opsAt,List.flatMap_cons,List.flatMap_nil,List.getElem?_cons_zero,List.getElem?_cons_succ,Option.toList_some,List.cons_append,List.nil_append]
 go_simp
 repeat (first
  | (go_big_quiet_want;apply quiet_val;(intro w' hw';go_simp;first | done | rfl);go_simp;go_big_quiet_on)
  | (go_big_quiet_skip))
 refine wpQuiet_nil ?_
 intro w5 hw5
 have HR1':=Lib.hid (HR1.out.of_new hw5)
 refine LateL.cons rfl (ROf.wp_build0 Tryz.underlying142 rfl ?_)
 intro w6 ho6 hb6 hs6
 have hw6:Grew w w6:=below_next hw5 hb6
 refine ⟨hw6,?_⟩
 refine LateL.cons rfl (ho6.app Tryz.underlying142 (.tmp 5) (.tmp 11) rfl rfl rfl (HR1'.out.of_new hb6) (by have:=HLEN.out;have:=HLT.out;simp;omega) (by omega) ?_)
 intro v7 w7 ho7 hg7 hu7
 have hw7:Grew w w7:=below_next hw5 (hb6.grown hg7 (by omega) (fun k e=>by cases e;exact Nat.le_refl _))
 refine ⟨hw7,?_⟩
 refine LateL.cons rfl (ho7.app Tryz.underlying142 (.tmp 12) (.tmp 19) rfl rfl rfl (HR2.out.of_new hw7) (by have:=HLEN.out;have:=HLT.out;simp;omega) (by have:=hw7.size;have:=hw5.size;have:=hg7.size;omega) ?_)
 intro v8 w8 ho8 hg8 hu8
 have hw8:Below w.heap.size w w8:=hw7.grown hg8 hw7.size (fun k e=>by have:=(ho7.lt k e).1;have:=hw5.size;omega)
 refine ⟨hw8,?_⟩
 refine LateL.nil ?_
 rw [wF_none]
 have ho8':ROf.Own w8 w.heap.size v8 (L.take i ++ L.drop (i + 1)):=by
  have:=ho8.mono (base':=w.heap.size) hw5.size
  simpa using this
 obtain ⟨L8,hL8⟩:∃ L8,L.take i ++ L.drop (i + 1) = L8:=⟨_,rfl⟩
 rw [hL8] at ho8'
 have HL8:=Lib.hid hL8
 obtain ⟨a8,n8,hv8⟩:=ho8'.row.len
 subst hv8
 have hr8:=HR.out.of_new hw8
 have c8:=hr8.cell2
 have f8:=hr8.free 2
 have HO8:=Lib.hid ho8'
 have HW8:=Lib.hid hw8
 have HR8:=Lib.hid hr8
 clear hL8 hw5 ho6 hb6 hs6 hw6 ho7 hg7 hu7 hw7 ho8 hg8 hu8 hw8 ho8' hr8 hc2
 gi_wp2
 generalize hW9:World.setCell w8 _ _ = w9
 have hfin:=HR.out.put (T':=T.take i ++ T.drop (i + 1)) HW8.out HO8.out (by rw [← HL8.out,map_cut,map_cut,HR.out.keys]) (fun j x y hx hy=>by
  rw [← HL8.out,cut_get (by rw [HLT.out];exact HI.out)] at hx
  rw [cut_get HI.out] at hy
  split at hx
  ·rename_i hj;rw [if_pos hj] at hy;exact HR8.out.rows j x y hx hy
  ·rename_i hj;rw [if_neg hj] at hy;exact HR8.out.rows (j + 1) x y hx hy) hW9.symm
 have HF:=Lib.hid hfin
 clear hW9 hfin c8 f8
 go_end0
 exact ⟨_,_,rfl,HF.out.1,HF.out.2,fun k e=>(HO8.out.lt k e).1⟩
theorem fill_step2 {place:Nat→Option (Nat × Nat)} {i:Nat} {v:Value} {rest:List (Nat × Value)} {cs:Array Value} (A M N B:List Value) (hcs:cs = (A ++ (M ++ B)).toArray) (hp:place i = some (A.length,M.length)) (hv:v.cells = N.toArray) (hn:N.length = M.length) :
  Instr.fill place cs ((i,v) :: rest) = Instr.fill place (A ++ (N ++ B)).toArray rest:=by
 subst hcs
 rw [Instr.fill]
 simp only [hp]
 rw [if_neg (by simp [hv,hn])]
 congr 1
 rw [hv]
 apply Array.ext_getElem?
 intro k
 have:=(Great.foldl_set A.length N 0 (A ++ (M ++ B)).toArray).2 k
 rw [← Array.foldl_toList,Array.toList_zipIdx,List.toList_toArray,this]
 simp only [Nat.add_zero,List.getElem?_toArray,List.size_toArray,List.length_append]
 by_cases h1:k < A.length
 ·rw [if_neg (by omega),List.getElem?_append_left h1,List.getElem?_append_left h1]
 ·by_cases h2:k < A.length + N.length
  ·rw [if_pos (by omega),List.getElem?_append_right (by omega),List.getElem?_append_left (by omega)]
  ·rw [if_neg (by omega),List.getElem?_append_right (by omega),List.getElem?_append_right (by omega),List.getElem?_append_right (by omega),List.getElem?_append_right (by omega),hn]
theorem places_of:∃ (i:TypeInfo) (fs:Array Field),Tryz.prog.info? 141 = some i∧i.zero = some (.agg (ROf.cells ROf.zero).toArray)∧Tryz.prog.underlying 141 = some (.struct fs) ∧
  fs.toList.mapM (fun f=>(Tryz.prog.info? f.type).map fun i=>(f.offset,i.size)) = some [(0,32),(32,1)]:=by
 have hz:(Tryz.prog.info? 141).map (·.zero) = some (some (.agg (ROf.cells ROf.zero).toArray)):=by kernel_rfl
 obtain ⟨i,hi,hz⟩:=Option.map_eq_some_iff.1 hz
 exact ⟨i,Tryz.prog.fieldsOf 141,hi,hz,by kernel_rfl,by kernel_rfl⟩
theorem run_build_of2 (d:List UInt8) (v:Value) (hd:d.length = 32) (hv:v.cells = #[v]) (w:World) :
  (Instr.build 141 #[(0,.agg (d.map B8).toArray),(1,v)]).run Tryz.prog w = .ok (ROf.V (d,v)) w:=by
 refine run_build w 141 _ _ ?_
 obtain ⟨i,fs,h1,h2,h3,h4⟩:=places_of
 unfold Program.built
 rw [h1,h3]
 simp only [h2,h4]
 have e0:(ROf.cells ROf.zero).toArray = ([] ++ (dig0.map B8 ++ [Value.slice none 0 0])).toArray:=rfl
 rw [show (Value.agg (ROf.cells ROf.zero).toArray).cells = (ROf.cells ROf.zero).toArray from rfl,e0]
 rw [fill_step2 [] (dig0.map B8) (d.map B8) _ (by first | rfl | simp) rfl rfl (by simp [hd,dig0])]
 rw [fill_step2 (d.map B8) [Value.slice none 0 0] [v] [] (by first | rfl | simp) (by simp [hd]) hv rfl]
 rfl
theorem run_build_of1 (d:List UInt8) (hd:d.length = 32) (w:World) :
  (Instr.build 141 #[(0,.agg (d.map B8).toArray)]).run Tryz.prog w = .ok (ROf.V (d,.slice none 0 0)) w:=by
 refine run_build w 141 _ _ ?_
 obtain ⟨i,fs,h1,h2,h3,h4⟩:=places_of
 unfold Program.built
 rw [h1,h3]
 simp only [h2,h4]
 have e0:(ROf.cells ROf.zero).toArray = ([] ++ (dig0.map B8 ++ [Value.slice none 0 0])).toArray:=rfl
 rw [show (Value.agg (ROf.cells ROf.zero).toArray).cells = (ROf.cells ROf.zero).toArray from rfl,e0]
 rw [fill_step2 [] (dig0.map B8) (d.map B8) _ (by first | rfl | simp) rfl rfl (by simp [hd,dig0])]
 rfl
theorem wp_build_of1 {w:World} {o:Oper} {a:Act} {K:Act→World→Prop} {Q:Exit→Act→World→Prop} {p:Operand} (d:List UInt8) (ho:o.op = .build 141 #[(0,p)])
  (hp:a.eval p = .agg (d.map B8).toArray) (hd:d.length = 32) (hK:K (a.put o.dst (ROf.V (d,.slice none 0 0))) w):o.wp Tryz.prog a w K Q:=by
 refine wp_val ?_ hK
 have:=run_build_of1 d hd w
 unfold execOp
 simp only [ho,List.map_toArray,List.map_cons,List.map_nil,hp,Sem.run_bind,this,Result.andThen_ok,Sem.run_pure]
theorem wp_build_of2 {w:World} {o:Oper} {a:Act} {K:Act→World→Prop} {Q:Exit→Act→World→Prop} {p q:Operand} (d:List UInt8) (v:Value) (ho:o.op = .build 141 #[(0,p),(1,q)])
  (hp:a.eval p = .agg (d.map B8).toArray) (hq:a.eval q = v) (hd:d.length = 32) (hv:v.cells = #[v]) (hK:K (a.put o.dst (ROf.V (d,v))) w):o.wp Tryz.prog a w K Q:=by
 refine wp_val ?_ hK
 have:=run_build_of2 d v hd hv w
 unfold execOp
 simp only [ho,List.map_toArray,List.map_cons,List.map_nil,hp,hq,Sem.run_bind,this,Result.andThen_ok,Sem.run_pure]
structure RSt (w:World) (r:Nat) (many most:Int) (B:Nat) (v:Value) (W:World) (v1:Value) (L1:RefL) (T1:TabL):Prop where
 tab:RTabP W r many most B v1 L1 T1
 step:RStp r v w W
 own:∀ k,v1.ownBlock = some k→v.ownBlock = some k∨w.heap.size ≤ k
section
variable {w W W':World} {r B:Nat} {many most:Int} {v v1 v2:Value} {L L1 L2:RefL} {T T1 T2:TabL}
theorem RSt.start (h:RTabP w r many most B v L T):RSt w r many most B v w v L T:=⟨h,Kept.refl _ _,fun k e=>.inl e⟩
theorem RSt.new (h:RSt w r many most B v W v1 L1 T1) (hb:Below W.heap.size W W'):RSt w r many most B v W' v1 L1 T1:=⟨h.tab.of_new hb,Kept.below h.step hb,h.own⟩
theorem RSt.next (h:RSt w r many most B v W v1 L1 T1) (ht:RTabP W' r many most B v2 L2 T2) (hs:RStp r v1 W W') (ho:∀ k,v2.ownBlock = some k→v1.ownBlock = some k∨W.heap.size ≤ k):RSt w r many most B v W' v2 L2 T2:=by
 refine ⟨ht,⟨hs.os.trans h.step.os,hs.tape.trans h.step.tape,hs.output.trans h.step.output,Nat.le_trans h.step.size hs.size,fun k hk hu=>?_⟩,fun k e=>?_⟩
 ·refine (hs.block k (Nat.lt_of_lt_of_le hk h.step.size) ⟨hu.1,fun e=>?_⟩).trans (h.step.block k hk hu)
  rcases h.own k e with h1 | h1
  ·exact hu.2 h1
  ·omega
 ·rcases ho k e with h1 | h1
  ·exact h.own k h1
  ·exact .inr (Nat.le_trans h.step.size h1)
theorem RSt.put (h:RSt w r many most B v W v1 L1 T1) (hw:Below W.heap.size W W') {v2:Value} {L2:RefL} {T2:TabL} (ho:ROf.Own W' W.heap.size v2 L2) (hk:L2.map (·.1) = T2.map (·.1))
  (hr:∀ (i:Nat) (x:List UInt8 × Value) (y:List UInt8 × List PeerL),L2[i]? = some x→T2[i]? = some y→RPeer.Own W' B x.2 y.2):RSt w r many most B v (W'.setCell ⟨r,2,none⟩ v2) v2 L2 T2:=by
 obtain ⟨h1,h2⟩:=h.tab.put hw ho hk hr rfl
 exact h.next h1 h2 fun k e=>.inr (ho.lt k e).1
theorem RSt.set {g1 n1 c1 i:Nat} {d:List UInt8} {u0 u:Value} {ps q:List PeerL} (h:RSt w r many most B v W (.slice (some ⟨g1,0,none⟩) n1 c1) L1 T1) (hi:L1[i]? = some (d,u0)) (hT:T1[i]? = some (d,ps)) (hu:RPeer.Own W B u q) :
  RSt w r many most B v (W.setCell ⟨g1,i * 33 + 32,none⟩ u) (.slice (some ⟨g1,0,none⟩) n1 c1) (L1.set i (d,u)) (T1.set i (d,q)):=by
 obtain ⟨ho,hg⟩:=ROf.set h.tab.own (u:=u) hi hu.one
 obtain ⟨cur,hcur⟩:=h.tab.own.block (k:=g1) rfl
 have hoth:∀ k,k ≠ g1→(W.setCell ⟨g1,i * 33 + 32,none⟩ u).heap[k]? = W.heap[k]?:=fun k hk=>Below.heap_setCell _ _ _ _ hk
 have hne:∀ {x:Value} {y:List PeerL},RPeer.Own W B x y→RPeer.Own (W.setCell ⟨g1,i * 33 + 32,none⟩ u) B x y:=fun {x y} hx=>hx.kept fun k e=>hoth k fun q=>by
  subst q
  obtain ⟨cur2,h2⟩:=hx.block e
  rw [hcur] at h2;cases h2
 refine h.next ⟨(hoth r (h.tab.ne rfl).symm).trans h.tab.tab,h.tab.base,ho,?_,fun j x y hx hy=>?_⟩ ⟨rfl,rfl,rfl,by simp,fun k hk hu2=>hoth k fun q=>hu2.2 (by rw [q];rfl)⟩ (fun k e=>.inl e)
 ·rw [List.map_set,List.map_set,h.tab.keys]
 ·by_cases hj:i = j
  ·subst hj
   have hil:i < L1.length:=(List.getElem?_eq_some_iff.1 hi).1
   have hil2:i < T1.length:=(List.getElem?_eq_some_iff.1 hT).1
   rw [List.getElem?_set_self hil] at hx
   rw [List.getElem?_set_self hil2] at hy
   cases hx;cases hy
   exact hne hu
  ·rw [List.getElem?_set_ne hj] at hx hy
   exact hne (h.tab.rows j x y hx hy)
theorem RTabP.val (h:RTabP w r many most B v1 L1 T1) {i:Nat} {d:List UInt8} {ps:List PeerL} (hi:T1[i]? = some (d,ps)):∃ u,L1[i]? = some (d,u)∧RPeer.Own w B u ps:=by
 have hl:i < L1.length:=by rw [h.len];exact (List.getElem?_eq_some_iff.1 hi).1
 obtain ⟨x,hx⟩:∃ x,L1[i]? = some x:=⟨_,List.getElem?_eq_getElem hl⟩
 have h1:=h.fst hx hi
 obtain ⟨xd,xv⟩:=x
 cases h1
 exact ⟨xv,hx,h.rows i _ _ hx hi⟩
theorem RTabP.form (h:RTabP w r many most B v1 L1 T1) (h0:0 < T1.length):∃ g c,v1 = .slice (some ⟨g,0,none⟩) T1.length c∧B ≤ g∧g < w.heap.size∧g ≠ r∧(∀ j,w.frozen? ⟨g,j,none⟩ = false)∧∀ i x,L1[i]? = some x→ROf.At w g (i * 33) x:=by
 obtain ⟨g,c,hv,h1,h2⟩:=h.own.form (by rw [h.len];exact h0)
 rw [h.len] at hv
 obtain ⟨cur,hcur⟩:=h.own.block (k:=g) (by rw [hv];rfl)
 refine ⟨g,c,hv,h1,h2,h.ne (by rw [hv];rfl),fun j=>by simp [World.frozen?,hcur],fun i x hx=>?_⟩
 obtain ⟨b,off,c',hv2,_,hat⟩:=h.own.row.at_ (by rw [h.len];exact h0)
 rw [hv] at hv2
 have hq:=(Value.slice.inj hv2).1
 cases hq
 have:=hat i x hx
 rwa [Nat.zero_add] at this
theorem RTabP.entry {g n c i:Nat} {d:List UInt8} {ps:List PeerL} (h:RTabP w r many most B (.slice (some ⟨g,0,none⟩) n c) L1 T1) (hi:T1[i]? = some (d,ps)) :
  ∃ a k,L1[i]? = some (d,.slice a ps.length k)∧RPeer.Own w B (.slice a ps.length k) ps∧w.cell? ⟨g,i * 33 + 32,none⟩ = some (.slice a ps.length k)∧w.frozen? ⟨g,i * 33 + 32,none⟩ = false∧i < n∧n = T1.length:=by
 obtain ⟨u,hu,hrow⟩:=h.val hi
 obtain ⟨a,k,hv⟩:=hrow.row.len
 subst hv
 have hil:i < T1.length:=(List.getElem?_eq_some_iff.1 hi).1
 obtain ⟨g',c',hv',_,_,_,hfz,hat⟩:=h.form (by omega)
 have e1:=(Value.slice.inj hv').1
 have e2:=(Value.slice.inj hv').2.1
 cases e1
 exact ⟨a,k,hu,hrow,ROf_val (hat i _ hu),hfz _,by omega,e2⟩
theorem set_same {α:Type} {l:List α} {i:Nat} {x:α} (h:l[i]? = some x):l.set i x = l:=(set_split h x).trans (split_at h).symm
end
def RPost (w:World) (r:Nat) (many most:Int) (B:Nat) (v:Value) (T':TabL) (u:Value) (e:Ending) (w':World):Prop:=
 ∃ v' L',e = .returned u∧RTabP w' r many most B v' L' T'∧RStp r v w w'
end Go.Proofs.YtnohglkilpnjhaaGreatDoor

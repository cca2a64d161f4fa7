/- Lemmas that the statement of this claim leans on; their own comments are taken out, for the size of the claim. No condition beyond what each lemma states. -/
import Derived.Test.YtnohglkilpnjhaaGreatDoorSa23
set_option linter.unusedVariables false
set_option linter.unusedSimpArgs false
set_option linter.unusedSectionVars false
namespace Go.Proofs.YtnohglkilpnjhaaGreatDoor
open Go.RowKit
set_option maxRecDepth 100000
theorem ownsRow_same {w w':World} {base:Nat} {e:TypeId} {size n:Nat} {v:Value} {xs:List Value} (h:w.ownsRow base e size v n xs) (hk:∀ k,v.ownBlock = some k→w'.heap[k]? = w.heap[k]?):w'.ownsRow base e size v n xs:=by
 refine ⟨h.1,?_⟩
 rcases h.2 with h | ⟨g,cap,cur,hv,hb,hh,hr⟩
 ·exact .inl h
 ·exact .inr ⟨g,cap,cur,hv,hb,(hk g (by rw [hv];rfl)).trans hh,hr⟩
theorem ownsRow_block {w:World} {base:Nat} {e:TypeId} {size n k:Nat} {v:Value} {xs:List Value} (h:w.ownsRow base e size v n xs) (hk:v.ownBlock = some k):∃ cur,w.heap[k]? = some (.cells cur e (0,0)):=by
 rcases h.2 with ⟨rfl,_⟩ | ⟨g,cap,cur,rfl,_,hh,_⟩
 ·cases hk
 ·cases hk;exact ⟨cur,hh⟩
theorem ownsRow_mono {w:World} {base base':Nat} {e:TypeId} {size n:Nat} {v:Value} {xs:List Value} (h:w.ownsRow base e size v n xs) (hb:base' ≤ base):w.ownsRow base' e size v n xs:=by
 refine ⟨h.1,?_⟩
 rcases h.2 with h | ⟨g,cap,cur,hv,hg,hr⟩
 ·exact .inl h
 ·exact .inr ⟨g,cap,cur,hv,Nat.le_trans hb hg,hr⟩
theorem ownsRow_maps {U:Nat→Prop} {w w':World} {base:Nat} {e:TypeId} {size n:Nat} {v:Value} {xs:List Value} (h:w.ownsRow base e size v n xs) (hk:Kept U w w') (hm:∀ k,¬ U k→∀ cur ty f,w.heap[k]? ≠ some (.cells cur ty f)):w'.ownsRow base e size v n xs:=
 ownsRow_same h fun k hv=>by
  obtain ⟨cur,hc⟩:=ownsRow_block h hv
  refine hk.block k (Array.getElem?_eq_some_iff.1 hc).1 (Classical.byContradiction fun hu=>hm k hu _ _ _ hc)
theorem ownsRow_other {w w':World} {base base2:Nat} {e e2:TypeId} {size size2 n n2:Nat} {v v2:Value} {xs xs2:List Value} (h:w.ownsRow base e size v n xs) (h2:w.ownsRow base2 e2 size2 v2 n2 xs2) (hne:e ≠ e2) (hg:w.grownBy w' v2.ownBlock):w'.ownsRow base e size v n xs:=
 ownsRow_same h fun k hv=>by
  obtain ⟨cur,hc⟩:=ownsRow_block h hv
  refine hg.block k (Array.getElem?_eq_some_iff.1 hc).1 fun e'=>?_
  obtain ⟨cur2,hc2⟩:=ownsRow_block h2 e'.symm
  rw [hc] at hc2
  exact hne (by cases hc2;rfl)
structure ContV where
 blob:BlobL
 bytes:Value
 leaves:Value
def ContV.zero:ContV:=⟨BlobL.zero,.slice none 0 0,.slice none 0 0⟩
def RCont:RecT 99 ContV where
 n:=68
 bytes:=128
 zero:=ContV.zero
 cells:=fun x=>x.blob.cells ++ [x.bytes,x.leaves]
 ok:=fun x=>x.blob.ok∧x.bytes.oneCell' = true∧x.leaves.oneCell' = true
 pos:=by decide
 small:=by decide
 few:=by decide
 zok:=⟨BlobL.zero_ok,rfl,rfl⟩
 len:=fun h=>by simp [BlobL.cells_len h.1]
 one:=fun {x} h v hv=>by
  rcases List.mem_append.1 hv with hv | hv
  ·exact RBlob.one h.1 v hv
  ·simp at hv
   rcases hv with rfl | rfl
   ·exact h.2.1
   ·exact h.2.2
 agg:=⟨_,Tryz.underlying99,rfl⟩
 info:=by kernel_rfl
structure ContP (w:World) (base:Nat) (x:ContV) (b:List UInt8):Prop where
 ok:x.blob.ok
 bytes:Own8 w base 5 x.bytes b
 leaves:OwnD w base x.leaves (leavesL b x.blob.piece.toNat)
theorem ContP.mono {w:World} {base base':Nat} {x:ContV} {b:List UInt8} (h:ContP w base x b) (hb:base' ≤ base):ContP w base' x b:=⟨h.ok,ownsRow_mono h.bytes hb,h.leaves.1,ownsRow_mono h.leaves.2 hb⟩
theorem ContP.same {w w':World} {base:Nat} {x:ContV} {b:List UInt8} (h:ContP w base x b) (h1:∀ k,x.bytes.ownBlock = some k→w'.heap[k]? = w.heap[k]?) (h2:∀ k,x.leaves.ownBlock = some k→w'.heap[k]? = w.heap[k]?):ContP w' base x b:=
 ⟨h.ok,ownsRow_same h.bytes h1,h.leaves.1,ownsRow_same h.leaves.2 h2⟩
theorem ContP.of_new {w w':World} {base:Nat} {x:ContV} {b:List UInt8} (h:ContP w base x b) (hb:Below w.heap.size w w'):ContP w' base x b:=
 h.same (fun k hk=>hb.block _ (World.ownsRow.lt h.bytes k hk).2) fun k hk=>hb.block _ (World.ownsRow.lt h.leaves.2 k hk).2
theorem ContP.maps {U:Nat→Prop} {w w':World} {base:Nat} {x:ContV} {b:List UInt8} (h:ContP w base x b) (hk:Kept U w w') (hm:∀ k,¬ U k→∀ cur ty f,w.heap[k]? ≠ some (.cells cur ty f)):ContP w' base x b:=
 ⟨h.ok,ownsRow_maps h.bytes hk hm,h.leaves.1,ownsRow_maps h.leaves.2 hk hm⟩
theorem RCont_ok {w:World} {base:Nat} {x:ContV} {b:List UInt8} (h:ContP w base x b):RCont.ok x:=by
 refine ⟨h.ok,?_,?_⟩
 ·obtain ⟨a,c,e⟩:=(Row.of_owns h.bytes).shape;rw [e];rfl
 ·obtain ⟨a,c,e⟩:=(Row.of_owns h.leaves.2).shape;rw [e];rfl
abbrev ImgR:=List UInt8 × (Value × List BlobL)
abbrev CntR:=ContV × List UInt8
def outI (x:ImgR):List UInt8 × Value:=(x.1,.agg #[x.2.1])
def outC (x:CntR):List UInt8 × Value:=(x.1.blob.dig,RCont.V x.1)
def plI (x:ImgR):List UInt8 × List BlobL:=(x.1,x.2.2)
def plC (x:CntR):BlobL × List UInt8:=(x.1.blob,x.2)
structure OrgQ (w:World) (o t mb im bm:Nat) (most each life:Int) (E:EntL) (I:List ImgR) (C:List CntR):Prop where
 org:w.heap[o]? = some (.cells #[.pointer (some ⟨t,0,none⟩),.int .i64 life,.map (some im),.map (some bm)] 91 (0,0))
 tab:TabP w t most each mb E
 imgs:MapL KDig w im (I.map outI)
 irow:∀ x ∈ I,RBlob.Own w 0 x.2.1 x.2.2
 blbs:MapL KDig w bm (C.map outC)
 crow:∀ x ∈ C,ContP w 0 x.1 x.2
 apart:im ≠ bm∧¬ ownE mb E im∧¬ ownE mb E bm
def FootM (mb im bm:Nat) (E:EntL) (k:Nat):Prop:=k = im∨k = bm∨ownE mb E k
def OrgP (w:World) (o:Nat) (most each life:Int) (S:OrgL) (F:Nat→Prop):Prop:=
 ∃ t mb im bm E I C,OrgQ w o t mb im bm most each life E I C∧S = ⟨I.map plI,C.map plC,tabOf E⟩∧F = FootM mb im bm E
def progTy (ty:TypeId):Prop:=ty = 91∨ty = 157∨ty = 81∨ty = 5∨ty = 31
section
variable {w w':World} {o t mb im bm:Nat} {most each life:Int} {E:EntL} {I:List ImgR} {C:List CntR} {S:OrgL} {F:Nat→Prop}
theorem OrgQ.olt (h:OrgQ w o t mb im bm most each life E I C):o < w.heap.size:=(Array.getElem?_eq_some_iff.1 h.org).1
theorem OrgQ.cell (h:OrgQ w o t mb im bm most each life E I C) (j:Nat):w.cell? ⟨o,j,none⟩ = #[Value.pointer (some ⟨t,0,none⟩),.int .i64 life,.map (some im),.map (some bm)][j]?:=by simp only [World.cell?,h.org];simp
theorem OrgQ.cell0 (h:OrgQ w o t mb im bm most each life E I C):w.cell? ⟨o,0,none⟩ = some (.pointer (some ⟨t,0,none⟩)):=h.cell 0
theorem OrgQ.cell1 (h:OrgQ w o t mb im bm most each life E I C):w.cell? ⟨o,1,none⟩ = some (.int .i64 life):=h.cell 1
theorem OrgQ.cell2 (h:OrgQ w o t mb im bm most each life E I C):w.cell? ⟨o,2,none⟩ = some (.map (some im)):=h.cell 2
theorem OrgQ.cell3 (h:OrgQ w o t mb im bm most each life E I C):w.cell? ⟨o,3,none⟩ = some (.map (some bm)):=h.cell 3
theorem OrgQ.lt (h:OrgQ w o t mb im bm most each life E I C) {k:Nat} (hk:FootM mb im bm E k):k < w.heap.size:=by
 rcases hk with rfl | rfl | hk
 ·exact h.imgs.lt
 ·exact h.blbs.lt
 ·exact h.tab.own_lt hk
theorem ownE_obj (h:TabP w t most each mb E) {k:Nat} (hk:ownE mb E k):∃ a c,w.heap[k]? = some (.map a c):=by
 rcases hk with rfl | ⟨x,hx,rfl⟩
 ·exact h.map.obj
 ·exact (h.ins x hx).obj
theorem OrgQ.obj (h:OrgQ w o t mb im bm most each life E I C) {k:Nat} (hk:FootM mb im bm E k):∃ a c,w.heap[k]? = some (.map a c):=by
 rcases hk with rfl | rfl | hk
 ·exact h.imgs.obj
 ·exact h.blbs.obj
 ·exact ownE_obj h.tab hk
theorem OrgQ.cells_ne (h:OrgQ w o t mb im bm most each life E I C) {k:Nat} (hk:FootM mb im bm E k) {cur:Array Value} {ty:TypeId} {f:Nat × Nat}:w.heap[k]? ≠ some (.cells cur ty f):=fun e=>by
 obtain ⟨a,c,h1⟩:=h.obj hk
 rw [h1] at e;cases e
theorem OrgQ.kept {U:Nat→Prop} (h:OrgQ w o t mb im bm most each life E I C) (hk:Kept U w w') (h1:∀ k,FootM mb im bm E k→U k) (h2:∀ k cur ty f,w.heap[k]? = some (.cells cur ty f)→progTy ty→U k):OrgQ w' o t mb im bm most each life E I C:=by
 have hb:∀ k,FootM mb im bm E k→w'.heap[k]? = w.heap[k]?:=fun k hf=>hk.block k (h.lt hf) (h1 k hf)
 have hc:∀ {k:Nat} {cur:Array Value} {ty:TypeId} {f:Nat × Nat},w.heap[k]? = some (.cells cur ty f)→progTy ty→w'.heap[k]? = w.heap[k]?:=fun e ht=>hk.block _ (Array.getElem?_eq_some_iff.1 e).1 (h2 _ _ _ _ e ht)
 have hr:∀ {base:Nat} {e:TypeId} {size n:Nat} {v:Value} {xs:List Value},w.ownsRow base e size v n xs→progTy e→w'.ownsRow base e size v n xs:=fun hr ht=>ownsRow_same hr fun k hv=>by
  obtain ⟨cur,e⟩:=ownsRow_block hr hv
  exact hc e ht
 exact ⟨(hc h.org (.inl rfl)).trans h.org,h.tab.kept hk (h2 t _ _ _ h.tab.tab (.inr (.inl rfl))) (fun k hf=>h1 k (.inr (.inr hf))),h.imgs.of_block (hb im (.inl rfl)),fun x hx=>⟨(h.irow x hx).1,hr (h.irow x hx).2 (.inr (.inr (.inl rfl)))⟩,
  h.blbs.of_block (hb bm (.inr (.inl rfl))),fun x hx=>⟨(h.crow x hx).ok,hr (h.crow x hx).bytes (.inr (.inr (.inr (.inl rfl)))),(h.crow x hx).leaves.1,hr (h.crow x hx).leaves.2 (.inr (.inr (.inr (.inr rfl))))⟩,h.apart⟩
theorem OrgQ.of_new (h:OrgQ w o t mb im bm most each life E I C) (hb:Below w.heap.size w w'):OrgQ w' o t mb im bm most each life E I C:=h.kept ((Kept.refl (fun _=>True) w).below hb) (fun _ _=>trivial) fun _ _ _ _ _ _=>trivial
theorem OrgP.lt (h:OrgP w o most each life S F) {k:Nat} (hk:F k):k < w.heap.size:=by
 obtain ⟨t,mb,im,bm,E,I,C,hq,_,rfl⟩:=h
 exact hq.lt hk
theorem OrgP.cells_ne (h:OrgP w o most each life S F) {k:Nat} (hk:F k) {cur:Array Value} {ty:TypeId} {f:Nat × Nat}:w.heap[k]? ≠ some (.cells cur ty f):=by
 obtain ⟨t,mb,im,bm,E,I,C,hq,_,rfl⟩:=h
 exact hq.cells_ne hk
theorem OrgP.kept {U:Nat→Prop} (h:OrgP w o most each life S F) (hk:Kept U w w') (h1:∀ k,F k→U k) (h2:∀ k cur ty f,w.heap[k]? = some (.cells cur ty f)→progTy ty→U k):OrgP w' o most each life S F:=by
 obtain ⟨t,mb,im,bm,E,I,C,hq,e,rfl⟩:=h
 exact ⟨t,mb,im,bm,E,I,C,hq.kept hk h1 h2,e,rfl⟩
theorem OrgP.of_new (h:OrgP w o most each life S F) (hb:Below w.heap.size w w'):OrgP w' o most each life S F:=h.kept ((Kept.refl (fun _=>True) w).below hb) (fun _ _=>trivial) fun _ _ _ _ _ _=>trivial
structure OStep (F F':Nat→Prop) (w w':World):Prop where
 kept:Kept (fun k=>¬ F k) w w'
 own:∀ k,F' k→F k∨w.heap.size ≤ k
theorem OStep.refl (F:Nat→Prop) (w:World):OStep F F w w:=⟨Kept.refl _ _,fun k h=>.inl h⟩
theorem OStep.new {F F':Nat→Prop} {w2:World} (h:OStep F F' w w') (hb:Below w'.heap.size w' w2):OStep F F' w w2:=⟨h.kept.below hb,h.own⟩
theorem OStep.trans {F F1 F2:Nat→Prop} {w w1 w2:World} (h:OStep F F1 w w1) (k:OStep F1 F2 w1 w2):OStep F F2 w w2:=by
 refine ⟨⟨k.kept.os.trans h.kept.os,k.kept.tape.trans h.kept.tape,k.kept.output.trans h.kept.output,Nat.le_trans h.kept.size k.kept.size,fun j hj hu=>?_⟩,fun j hj=>?_⟩
 ·refine (k.kept.block j (Nat.lt_of_lt_of_le hj h.kept.size) fun hx=>?_).trans (h.kept.block j hj hu)
  rcases h.own j hx with h1 | h1
  ·exact hu h1
  ·omega
 ·rcases k.own j hj with h1 | h1
  ·exact h.own j h1
  ·exact .inr (Nat.le_trans h.kept.size h1)
theorem OStep.of_below {F:Nat→Prop} {w2:World} (hb:Below w.heap.size w w2):OStep F F w w2:=(OStep.refl F w).new hb
theorem OStep.below {F F':Nat→Prop} {B:Nat} {w0:World} (h:OStep F F' w w') (hb:Below B w0 w) (hB:B ≤ w.heap.size) (ho:∀ k,F k→B ≤ k):Below B w0 w':=h.kept.to_below hb hB fun k hk hx=>by have:=ho k hx;omega
theorem OrgQ.table {E':EntL} (h:OrgQ w o t mb im bm most each life E I C) (hT:TabP w' t most each mb E') (hs:TabStep mb E E' w w') :
  OrgQ w' o t mb im bm most each life E' I C∧OStep (FootM mb im bm E) (FootM mb im bm E') w w':=by
 have hm:∀ k,¬ ¬ ownE mb E k→∀ cur ty f,w.heap[k]? ≠ some (.cells cur ty f):=fun k hk cur ty f e=>by
  obtain ⟨a,c,h1⟩:=ownE_obj h.tab (Classical.not_not.1 hk)
  rw [h1] at e;cases e
 have ne:∀ {k:Nat} {cur:Array Value} {ty:TypeId} {f:Nat × Nat},w.heap[k]? = some (.cells cur ty f)→w'.heap[k]? = w.heap[k]?:=fun {k cur ty f} e=>hs.kept.block k (Array.getElem?_eq_some_iff.1 e).1 fun hx=>hm k (fun hn=>hn hx) _ _ _ e
 have him:=h.imgs.lt
 have hbm:=h.blbs.lt
 refine ⟨⟨(ne h.org).trans h.org,hT,h.imgs.of_block (hs.kept.block im him h.apart.2.1),fun x hx=>⟨(h.irow x hx).1,ownsRow_maps (h.irow x hx).2 hs.kept hm⟩,h.blbs.of_block (hs.kept.block bm hbm h.apart.2.2),fun x hx=>(h.crow x hx).maps hs.kept hm,h.apart.1,fun hx=>?_,fun hx=>?_⟩,?_,?_⟩
 ·rcases hs.own _ hx with h1 | h1
  ·exact h.apart.2.1 h1
  ·omega
 ·rcases hs.own _ hx with h1 | h1
  ·exact h.apart.2.2 h1
  ·omega
 ·exact hs.kept.mono fun k _ hf hx=>hf (.inr (.inr hx))
 ·intro k hk
  rcases hk with rfl | rfl | hk
  ·exact .inl (.inl rfl)
  ·exact .inl (.inr (.inl rfl))
  ·rcases hs.own k hk with h1 | h1
   ·exact .inl (.inr (.inr h1))
   ·exact .inr h1
theorem OrgQ.set_imgs {I':List ImgR} (h:OrgQ w o t mb im bm most each life E I C) (hm:MapL KDig w' im (I'.map outI)) (hg:w.grownBy w' (some im)) (hr:∀ x ∈ I',RBlob.Own w 0 x.2.1 x.2.2) :
  OrgQ w' o t mb im bm most each life E I' C∧OStep (FootM mb im bm E) (FootM mb im bm E) w w':=by
 have hk:Kept (fun k=>k ≠ im) w w':=(Kept.refl _ w).grown hg fun r e=>by cases e;exact fun h=>h rfl
 have hmm:∀ k,¬ (k ≠ im)→∀ cur ty f,w.heap[k]? ≠ some (.cells cur ty f):=fun k hk cur ty f e=>by
  obtain rfl:k = im:=Classical.not_not.1 hk
  exact h.cells_ne (.inl rfl) e
 refine ⟨⟨(hg.block _ h.olt fun e=>?_).trans h.org,h.tab.kept hk (fun e=>?_) (fun k hf e=>h.apart.2.1 (e ▸ hf)),hm,fun x hx=>⟨(hr x hx).1,ownsRow_maps (hr x hx).2 hk hmm⟩,h.blbs.of_block (hk.block bm h.blbs.lt fun e=>h.apart.1 e.symm),fun x hx=>(h.crow x hx).maps hk hmm,h.apart⟩,
  hk.mono fun k _ hf e=>hf (.inl e),fun k hf=>.inl hf⟩
 ·cases e;exact hmm o (fun h=>h rfl) _ _ _ h.org
 ·subst e;exact hmm t (fun h=>h rfl) _ _ _ h.tab.tab
theorem OrgQ.set_blbs {C':List CntR} (h:OrgQ w o t mb im bm most each life E I C) (hm:MapL KDig w' bm (C'.map outC)) (hg:w.grownBy w' (some bm)) (hr:∀ x ∈ C',ContP w 0 x.1 x.2) :
  OrgQ w' o t mb im bm most each life E I C'∧OStep (FootM mb im bm E) (FootM mb im bm E) w w':=by
 have hk:Kept (fun k=>k ≠ bm) w w':=(Kept.refl _ w).grown hg fun r e=>by cases e;exact fun h=>h rfl
 have hmm:∀ k,¬ (k ≠ bm)→∀ cur ty f,w.heap[k]? ≠ some (.cells cur ty f):=fun k hk cur ty f e=>by
  obtain rfl:k = bm:=Classical.not_not.1 hk
  exact h.cells_ne (.inr (.inl rfl)) e
 refine ⟨⟨(hg.block _ h.olt fun e=>?_).trans h.org,h.tab.kept hk (fun e=>?_) (fun k hf e=>h.apart.2.2 (e ▸ hf)),h.imgs.of_block (hk.block im h.imgs.lt h.apart.1),fun x hx=>⟨(h.irow x hx).1,ownsRow_maps (h.irow x hx).2 hk hmm⟩,hm,fun x hx=>(hr x hx).maps hk hmm,h.apart⟩,
  hk.mono fun k _ hf e=>hf (.inr (.inl e)),fun k hf=>.inl hf⟩
 ·cases e;exact hmm o (fun h=>h rfl) _ _ _ h.org
 ·subst e;exact hmm t (fun h=>h rfl) _ _ _ h.tab.tab
end
theorem getL_outI (I:List ImgR) (d:List UInt8):getL (I.map outI) d = (I.find? fun x=>decide (x.1 = d)).map (fun x=>.agg #[x.2.1]):=by
 unfold getL
 rw [List.find?_map,Option.map_map];rfl
theorem imgAt_outI {I:List ImgR} {C:List (BlobL × List UInt8)} {T:TabL} (d:List UInt8):imgAt ⟨I.map plI,C,T⟩ d = (I.find? fun x=>decide (x.1 = d)).map (·.2.2):=by
 unfold imgAt
 simp only [List.find?_map,Option.map_map];rfl
theorem getL_outC (C:List CntR) (d:List UInt8):getL (C.map outC) d = (C.find? fun x=>decide (x.1.blob.dig = d)).map (fun x=>RCont.V x.1):=by
 unfold getL
 rw [List.find?_map,Option.map_map];rfl
theorem contIn_outC (C:List CntR) (d:List UInt8):contIn (C.map plC) d = (C.find? fun x=>decide (x.1.blob.dig = d)).map plC:=by
 unfold contIn
 rw [List.find?_map];rfl
theorem places_cont:∃ (i:TypeInfo) (fs:Array Field),Tryz.prog.info? 99 = some i∧i.zero = some (.agg (RCont.cells RCont.zero).toArray)∧Tryz.prog.underlying 99 = some (.struct fs) ∧
  fs.toList.mapM (fun f=>(Tryz.prog.info? f.type).map fun i=>(f.offset,i.size)) = some [(0,66),(66,1),(67,1)]:=by
 have hz:(Tryz.prog.info? 99).map (·.zero) = some (some (.agg (RCont.cells RCont.zero).toArray)):=by kernel_rfl
 obtain ⟨i,hi,hz⟩:=Option.map_eq_some_iff.1 hz
 exact ⟨i,Tryz.prog.fieldsOf 99,hi,hz,by kernel_rfl,by kernel_rfl⟩
theorem run_build_cont (x:BlobL) (v u:Value) (hx:x.ok) (hv:v.cells = #[v]) (hu:u.cells = #[u]) (w:World) :
  (Instr.build 99 #[(0,BlobV x),(1,v),(2,u)]).run Tryz.prog w = .ok (RCont.V ⟨x,v,u⟩) w:=by
 refine run_build w 99 _ _ ?_
 obtain ⟨i,fs,h1,h2,h3,h4⟩:=places_cont
 unfold Program.built
 rw [h1,h3]
 simp only [h2,h4]
 have e0:(RCont.cells RCont.zero).toArray = ([] ++ (BlobL.zero.cells ++ [Value.slice none 0 0,Value.slice none 0 0])).toArray:=rfl
 rw [show (Value.agg (RCont.cells RCont.zero).toArray).cells = (RCont.cells RCont.zero).toArray from rfl,e0]
 rw [fill_step [] BlobL.zero.cells x.cells _ (by first | rfl | simp) rfl rfl (by rw [BlobL.cells_len hx];rfl)]
 rw [fill_step x.cells [Value.slice none 0 0] [v] [Value.slice none 0 0] (by first | rfl | simp) (by simp [BlobL.cells_len hx]) hv rfl]
 rw [fill_step (x.cells ++ [v]) [Value.slice none 0 0] [u] [] (by first | rfl | simp) (by simp [BlobL.cells_len hx]) hu rfl]
 simp [Instr.fill,RecT.V,RCont]
theorem zero_img (w:World):(zeroValue 52).run Tryz.prog w = .ok (.agg #[.slice none 0 0]) w:=RImg.zero_run w
theorem zero_cont (w:World):(zeroValue 99).run Tryz.prog w = .ok (RCont.V ContV.zero) w:=RCont.zero_run w
theorem contP_zero (w:World):ContP w 0 ContV.zero []:=⟨BlobL.zero_ok,Own8.nil _ _ _,(fun d hd=>by cases hd),World.ownsRow_nil _ _ _ _⟩
section
variable {w:World} {o t mb im bm:Nat} {most each life:Int} {E:EntL} {I:List ImgR} {C:List CntR}
theorem OrgQ.look_img (h:OrgQ w o t mb im bm most each life E I C) {d:List UInt8} (h32:d.length = 32) :
  ∃ v xs is,imgAt ⟨I.map plI,C.map plC,tabOf E⟩ d = (if is = true then some xs else none)∧RBlob.Own w 0 v xs∧(is = false→v = .slice none 0 0∧xs = []) ∧
   ∀ w',Grew w w'→(Instr.lookup 88 (.map (some im)) (.agg (d.map B8).toArray) true).run Tryz.prog w' = .ok (.tuple #[.agg #[v],.bool is]) w':=by
 have hl:=fun w' (hw:Grew w w')=>(h.imgs.of_new hw).look_ok (t:=88) Tryz.underlying88 (zero_img w') (KT:=KDig) (x:=d) h32
 simp only [hasKey_get,getL_outI] at hl
 rw [imgAt_outI]
 cases e:I.find? (fun x=>decide (x.1 = d)) with
 | none=>
  rw [e] at hl
  exact ⟨.slice none 0 0,[],false,rfl,RecT.Own.nil _ _,fun _=>⟨rfl,rfl⟩,hl⟩
 | some x=>
  rw [e] at hl
  exact ⟨x.2.1,x.2.2,true,rfl,h.irow x (List.mem_of_find?_eq_some e),(fun h=>by cases h),hl⟩
theorem OrgQ.look_cont (h:OrgQ w o t mb im bm most each life E I C) {d:List UInt8} (h32:d.length = 32) :
  ∃ x b is,contIn (C.map plC) d = (if is = true then some (x.blob,b) else none)∧ContP w 0 x b∧(is = false→x = ContV.zero∧b = []) ∧
   (∀ w',Grew w w'→(Instr.lookup 89 (.map (some bm)) (.agg (d.map B8).toArray) true).run Tryz.prog w' = .ok (.tuple #[RCont.V x,.bool is]) w') ∧
   ∀ w',Grew w w'→(Instr.lookup 89 (.map (some bm)) (.agg (d.map B8).toArray) false).run Tryz.prog w' = .ok (RCont.V x) w':=by
 have hl:=fun w' (hw:Grew w w')=>(h.blbs.of_new hw).look_ok (t:=89) Tryz.underlying89 (zero_cont w') (KT:=KDig) (x:=d) h32
 have hl2:=fun w' (hw:Grew w w')=>(h.blbs.of_new hw).look (t:=89) Tryz.underlying89 (zero_cont w') (KT:=KDig) (x:=d) h32
 simp only [hasKey_get,getL_outC] at hl hl2
 rw [contIn_outC]
 cases e:C.find? (fun x=>decide (x.1.blob.dig = d)) with
 | none=>
  rw [e] at hl hl2
  exact ⟨ContV.zero,[],false,rfl,contP_zero w,fun _=>⟨rfl,rfl⟩,hl,hl2⟩
 | some x=>
  rw [e] at hl hl2
  exact ⟨x.1,x.2,true,rfl,h.crow x (List.mem_of_find?_eq_some e),(fun h=>by cases h),hl,hl2⟩
end
def RNamed:RecT 132 (List UInt8 × Value) where
 n:=33
 bytes:=56
 zero:=(dig0,.slice none 0 0)
 cells:=fun x=>x.1.map B8 ++ [x.2]
 ok:=fun x=>x.1.length = 32∧x.2.oneCell' = true
 pos:=by decide
 small:=by decide
 few:=by decide
 zok:=⟨rfl,rfl⟩
 len:=fun h=>by simp [h.1]
 one:=fun {x} h v hv=>by
  rcases List.mem_append.1 hv with hv | hv
  ·obtain ⟨b,_,rfl⟩:=List.mem_map.1 hv
   rfl
  ·simp at hv;subst hv;exact h.2
 agg:=⟨_,Tryz.underlying132,rfl⟩
 info:=by kernel_rfl
def RRB:RecT 135 (BlobL × Value) where
 n:=67
 bytes:=104
 zero:=(BlobL.zero,.slice none 0 0)
 cells:=fun x=>x.1.cells ++ [x.2]
 ok:=fun x=>x.1.ok∧x.2.oneCell' = true
 pos:=by decide
 small:=by decide
 few:=by decide
 zok:=⟨BlobL.zero_ok,rfl⟩
 len:=fun h=>by simp [BlobL.cells_len h.1]
 one:=fun {x} h v hv=>by
  rcases List.mem_append.1 hv with hv | hv
  ·exact RBlob.one h.1 v hv
  ·simp at hv;subst hv;exact h.2
 agg:=⟨_,Tryz.underlying135,rfl⟩
 info:=by kernel_rfl
abbrev RCntR:=(BlobL × Value) × List UInt8
def plN (x:ImgR):List UInt8 × Value:=(x.1,x.2.1)
def plR (x:RCntR):BlobL × List UInt8:=(x.1.1,x.2)
structure ROrgQ (w:World) (r rt:Nat) (many most life:Int) (B:Nat) (v:Value) (L:RefL) (T:TabL) (vi vb:Value) (I:List ImgR) (C:List RCntR):Prop where
 org:w.heap[r]? = some (.cells #[.pointer (some ⟨rt,0,none⟩),.int .i64 life,vi,vb] 77 (0,0))
 base:B ≤ r
 tab:RTabP w rt many most B v L T
 imgs:RNamed.Own w B vi (I.map plN)
 irow:∀ x ∈ I,RBlob.Own w B x.2.1 x.2.2
 blbs:RRB.Own w B vb (C.map (·.1))
 brow:∀ x ∈ C,Own8 w B 5 x.1.2 x.2
def ROrgP (w:World) (r:Nat) (many most life:Int) (B:Nat) (S:OrgL):Prop:=
 ∃ rt v L T vi vb I C,ROrgQ w r rt many most life B v L T vi vb I C∧S = ⟨I.map plI,C.map plR,T⟩
def refTy (ty:TypeId):Prop:=ty = 77∨ty = 144∨ty = 141∨ty = 132∨ty = 135
theorem prog_ref {ty:TypeId} (h:progTy ty) (h2:refTy ty):False:=by
 rcases h with rfl | rfl | rfl | rfl | rfl <;> rcases h2 with h | h | h | h | h <;> exact absurd h (by decide)
def RMut (B:Nat) (w:World) (k:Nat):Prop:=B ≤ k∧∃ cur ty f,w.heap[k]? = some (.cells cur ty f)∧refTy ty
def RKept (B:Nat) (w w':World):Prop:=Kept (fun k=>¬ RMut B w k) w w'
section
variable {w w':World} {r rt:Nat} {many most life:Int} {B:Nat} {v:Value} {L:RefL} {T:TabL} {vi vb:Value} {I:List ImgR} {C:List RCntR} {S:OrgL}
theorem RKept.refl (B:Nat) (w:World):RKept B w w:=Kept.refl _ _
theorem RKept.trans {w1 w2:World} (h:RKept B w w1) (k:RKept B w1 w2):RKept B w w2:=by
 refine ⟨k.os.trans h.os,k.tape.trans h.tape,k.output.trans h.output,Nat.le_trans h.size k.size,fun j hj hu=>?_⟩
 have e:=h.block j hj hu
 refine (k.block j (Nat.lt_of_lt_of_le hj h.size) fun hx=>hu ?_).trans e
 obtain ⟨hb,cur,ty,f,e2,ht⟩:=hx
 exact ⟨hb,cur,ty,f,e.symm.trans e2,ht⟩
theorem RKept.new {w1 w2:World} (h:RKept B w w1) (hb:Below w1.heap.size w1 w2):RKept B w w2:=Kept.below h hb
theorem RKept.of_below (hb:Below w.heap.size w w'):RKept B w w':=(RKept.refl B w).new hb
theorem RKept.below {B0:Nat} {w0:World} (h:RKept B w w') (hb:Below B0 w0 w) (hB:B0 ≤ w.heap.size) (h0:B0 ≤ B):Below B0 w0 w':=Kept.to_below hb h hB fun k hk hx=>by have:=hx.1;omega
theorem RKept.of_block {k:Nat} {cur:Array Value} {ty:TypeId} {f:Nat × Nat} (hg:w.grownBy w' (some k)) (hb:B ≤ k) (he:w.heap[k]? = some (.cells cur ty f)) (ht:refTy ty):RKept B w w':=
 (Kept.refl _ w).grown hg fun r e=>by cases e;exact fun h=>h ⟨hb,cur,ty,f,he,ht⟩
theorem ROrgQ.rlt (h:ROrgQ w r rt many most life B v L T vi vb I C):r < w.heap.size:=(Array.getElem?_eq_some_iff.1 h.org).1
theorem ROrgQ.cell (h:ROrgQ w r rt many most life B v L T vi vb I C) (j:Nat):w.cell? ⟨r,j,none⟩ = #[Value.pointer (some ⟨rt,0,none⟩),.int .i64 life,vi,vb][j]?:=by simp only [World.cell?,h.org];simp
theorem ROrgQ.cell0 (h:ROrgQ w r rt many most life B v L T vi vb I C):w.cell? ⟨r,0,none⟩ = some (.pointer (some ⟨rt,0,none⟩)):=h.cell 0
theorem ROrgQ.cell1 (h:ROrgQ w r rt many most life B v L T vi vb I C):w.cell? ⟨r,1,none⟩ = some (.int .i64 life):=h.cell 1
theorem ROrgQ.cell2 (h:ROrgQ w r rt many most life B v L T vi vb I C):w.cell? ⟨r,2,none⟩ = some vi:=h.cell 2
theorem ROrgQ.cell3 (h:ROrgQ w r rt many most life B v L T vi vb I C):w.cell? ⟨r,3,none⟩ = some vb:=h.cell 3
theorem ROrgQ.free (h:ROrgQ w r rt many most life B v L T vi vb I C) (j:Nat):w.frozen? ⟨r,j,none⟩ = false:=by simp [World.frozen?,h.org]
theorem ROrgQ.kept {U:Nat→Prop} (h:ROrgQ w r rt many most life B v L T vi vb I C) (hk:Kept U w w') (hu:∀ k cur ty f,w.heap[k]? = some (.cells cur ty f)→U k):ROrgQ w' r rt many most life B v L T vi vb I C:=by
 have hc:∀ {k:Nat} {cur:Array Value} {ty:TypeId} {f:Nat × Nat},w.heap[k]? = some (.cells cur ty f)→w'.heap[k]? = w.heap[k]?:=fun e=>hk.block _ (Array.getElem?_eq_some_iff.1 e).1 (hu _ _ _ _ e)
 have hr:∀ {base:Nat} {e:TypeId} {size n:Nat} {v:Value} {xs:List Value},w.ownsRow base e size v n xs→w'.ownsRow base e size v n xs:=fun hr=>ownsRow_same hr fun k hv=>by
  obtain ⟨cur,e⟩:=ownsRow_block hr hv
  exact hc e
 refine ⟨(hc h.org).trans h.org,h.base,h.tab.kept hk (hu _ _ _ _ h.tab.tab) (fun k hv=>?_) (fun i x y hx hy k hv=>?_),⟨h.imgs.1,hr h.imgs.2⟩,fun x hx=>⟨(h.irow x hx).1,hr (h.irow x hx).2⟩,⟨h.blbs.1,hr h.blbs.2⟩,fun x hx=>hr (h.brow x hx)⟩
 ·obtain ⟨cur,e⟩:=ownsRow_block h.tab.own.2 hv
  exact hu _ _ _ _ e
 ·obtain ⟨cur,e⟩:=ownsRow_block (h.tab.rows i x y hx hy).2 hv
  exact hu _ _ _ _ e
theorem ROrgQ.of_new (h:ROrgQ w r rt many most life B v L T vi vb I C) (hb:Below w.heap.size w w'):ROrgQ w' r rt many most life B v L T vi vb I C:=h.kept ((Kept.refl (fun _=>True) w).below hb) fun _ _ _ _ _=>trivial
theorem ROrgP.of_new (h:ROrgP w r many most life B S) (hb:Below w.heap.size w w'):ROrgP w' r many most life B S:=by
 obtain ⟨rt,v,L,T,vi,vb,I,C,hq,e⟩:=h
 exact ⟨rt,v,L,T,vi,vb,I,C,hq.of_new hb,e⟩
theorem ROrgP.prog_step {o:Nat} {m1 e1 l1:Int} {S1:OrgL} {F F':Nat→Prop} (h:ROrgP w r many most life B S) (hO:OrgP w o m1 e1 l1 S1 F) (hs:OStep F F' w w'):ROrgP w' r many most life B S:=by
 obtain ⟨rt,v,L,T,vi,vb,I,C,hq,e⟩:=h
 exact ⟨rt,v,L,T,vi,vb,I,C,hq.kept hs.kept fun k cur ty f he hf=>hO.cells_ne hf he,e⟩
theorem OrgP.ref_step {o:Nat} {m1 e1 l1:Int} {S1:OrgL} {F:Nat→Prop} (h:OrgP w o m1 e1 l1 S1 F) (hs:RKept B w w'):OrgP w' o m1 e1 l1 S1 F:=
 h.kept hs (fun k hf hx=>by obtain ⟨_,cur,ty,f,e,_⟩:=hx;exact h.cells_ne hf e) fun k cur ty f he ht hx=>by
  obtain ⟨_,cur2,ty2,f2,e2,ht2⟩:=hx
  rw [he] at e2
  cases e2
  exact prog_ref ht ht2
theorem ROrgQ.table {v2:Value} {L2:RefL} {T2:TabL} (h:ROrgQ w r rt many most life B v L T vi vb I C) (hT:RTabP w' rt many most B v2 L2 T2) (hs:RStp rt v w w') :
  ROrgQ w' r rt many most life B v2 L2 T2 vi vb I C∧RKept B w w':=by
 have hty:∀ {k:Nat} {cur:Array Value} {ty:TypeId} {f:Nat × Nat},w.heap[k]? = some (.cells cur ty f)→ty ≠ 144→ty ≠ 141→w'.heap[k]? = w.heap[k]?:=fun {k cur ty f} e h1 h2=>by
  refine hs.block k (Array.getElem?_eq_some_iff.1 e).1 ⟨fun e2=>?_,fun e2=>?_⟩
  ·subst e2
   rw [h.tab.tab] at e
   cases e;exact h1 rfl
  ·obtain ⟨cur2,e3⟩:=ownsRow_block h.tab.own.2 e2
   rw [e3] at e
   cases e;exact h2 rfl
 have hr:∀ {base:Nat} {e:TypeId} {size n:Nat} {v:Value} {xs:List Value},w.ownsRow base e size v n xs→e ≠ 144→e ≠ 141→w'.ownsRow base e size v n xs:=fun hr h1 h2=>ownsRow_same hr fun k hv=>by
  obtain ⟨cur,e⟩:=ownsRow_block hr hv
  exact hty e h1 h2
 refine ⟨⟨(hty h.org (by decide) (by decide)).trans h.org,h.base,hT,⟨h.imgs.1,hr h.imgs.2 (by decide) (by decide)⟩,fun x hx=>⟨(h.irow x hx).1,hr (h.irow x hx).2 (by decide) (by decide)⟩,⟨h.blbs.1,hr h.blbs.2 (by decide) (by decide)⟩,fun x hx=>hr (h.brow x hx) (by decide) (by decide)⟩,?_⟩
 refine Kept.mono hs fun k hk hx=>⟨fun e=>hx ?_,fun e=>hx ?_⟩
 ·subst e
  exact ⟨h.tab.base,_,_,_,h.tab.tab,.inr (.inl rfl)⟩
 ·obtain ⟨cur,e3⟩:=ownsRow_block h.tab.own.2 e
  exact ⟨(h.tab.own.lt k e).1,_,_,_,e3,.inr (.inr (.inl rfl))⟩
end
theorem imgAt_plI (I:List ImgR) (C:List (BlobL × List UInt8)) (T:TabL) (d:List UInt8):imgAt ⟨I.map plI,C,T⟩ d = (I.find? fun x=>decide (x.1 = d)).map (·.2.2):=imgAt_outI d
theorem contIn_plR (C:List RCntR) (d:List UInt8):contIn (C.map plR) d = (C.find? fun x=>decide (x.1.1.dig = d)).map plR:=by
 unfold contIn
 rw [List.find?_map];rfl
theorem places_named:∃ (i:TypeInfo) (fs:Array Field),Tryz.prog.info? 132 = some i∧i.zero = some (.agg (RNamed.cells RNamed.zero).toArray)∧Tryz.prog.underlying 132 = some (.struct fs) ∧
  fs.toList.mapM (fun f=>(Tryz.prog.info? f.type).map fun i=>(f.offset,i.size)) = some [(0,32),(32,1)]:=by
 have hz:(Tryz.prog.info? 132).map (·.zero) = some (some (.agg (RNamed.cells RNamed.zero).toArray)):=by kernel_rfl
 obtain ⟨i,hi,hz⟩:=Option.map_eq_some_iff.1 hz
 exact ⟨i,Tryz.prog.fieldsOf 132,hi,hz,by kernel_rfl,by kernel_rfl⟩
theorem run_build_named (d:List UInt8) (v:Value) (hd:d.length = 32) (w:World) :
  (Instr.build 132 #[(0,.agg (d.map B8).toArray),(1,.agg #[v])]).run Tryz.prog w = .ok (RNamed.V (d,v)) w:=by
 refine run_build w 132 _ _ ?_
 obtain ⟨i,fs,h1,h2,h3,h4⟩:=places_named
 unfold Program.built
 rw [h1,h3]
 simp only [h2,h4]
 have e0:(RNamed.cells RNamed.zero).toArray = ([] ++ (dig0.map B8 ++ [Value.slice none 0 0])).toArray:=rfl
 rw [show (Value.agg (RNamed.cells RNamed.zero).toArray).cells = (RNamed.cells RNamed.zero).toArray from rfl,e0]
 rw [fill_step2 [] (dig0.map B8) (d.map B8) _ (by first | rfl | simp) rfl rfl (by simp [hd,dig0])]
 rw [fill_step2 (d.map B8) [Value.slice none 0 0] [v] [] (by first | rfl | simp) (by simp [hd]) rfl rfl]
 rfl
theorem places_rb:∃ (i:TypeInfo) (fs:Array Field),Tryz.prog.info? 135 = some i∧i.zero = some (.agg (RRB.cells RRB.zero).toArray)∧Tryz.prog.underlying 135 = some (.struct fs) ∧
  fs.toList.mapM (fun f=>(Tryz.prog.info? f.type).map fun i=>(f.offset,i.size)) = some [(0,66),(66,1)]:=by
 have hz:(Tryz.prog.info? 135).map (·.zero) = some (some (.agg (RRB.cells RRB.zero).toArray)):=by kernel_rfl
 obtain ⟨i,hi,hz⟩:=Option.map_eq_some_iff.1 hz
 exact ⟨i,Tryz.prog.fieldsOf 135,hi,hz,by kernel_rfl,by kernel_rfl⟩
theorem run_build_rb (x:BlobL) (v:Value) (hx:x.ok) (hv:v.cells = #[v]) (w:World) :
  (Instr.build 135 #[(0,BlobV x),(1,v)]).run Tryz.prog w = .ok (RRB.V (x,v)) w:=by
 refine run_build w 135 _ _ ?_
 obtain ⟨i,fs,h1,h2,h3,h4⟩:=places_rb
 unfold Program.built
 rw [h1,h3]
 simp only [h2,h4]
 have e0:(RRB.cells RRB.zero).toArray = ([] ++ (BlobL.zero.cells ++ [Value.slice none 0 0])).toArray:=rfl
 rw [show (Value.agg (RRB.cells RRB.zero).toArray).cells = (RRB.cells RRB.zero).toArray from rfl,e0]
 rw [fill_step2 [] BlobL.zero.cells x.cells _ (by first | rfl | simp) rfl rfl (by rw [BlobL.cells_len hx];rfl)]
 rw [fill_step2 x.cells [Value.slice none 0 0] [v] [] (by first | rfl | simp) (by simp [BlobL.cells_len hx]) hv rfl]
 rfl
section
variable {w:World} {g off:Nat}
theorem RRB_blob {x:BlobL × Value} (h:RRB.At w g off x):RBlob.At w g off x.1:=⟨h.1.1,h.2.1,fun j hj=>by
 have h1:=h.2.2 j (by show j < 67;have:j < 66:=hj;omega)
 rw [h1]
 show (x.1.cells ++ [x.2])[j]? = _
 rw [List.getElem?_append_left (by rw [BlobL.cells_len h.1.1];exact hj)]
 rfl⟩
theorem RRB_dig {x:BlobL × Value} (h:RRB.At w g off x):DigAt w g off x.1.dig:=(RRB_blob h).dig5
theorem RRB_val {x:BlobL × Value} (h:RRB.At w g off x):w.cell? ⟨g,off + 66,none⟩ = some x.2:=by
 have h1:=h.2.2 66 (by show 66 < 67;omega)
 rw [h1]
 show (x.1.cells ++ [x.2])[66]? = _
 rw [List.getElem?_append_right (by rw [BlobL.cells_len h.1.1];omega)]
 simp [BlobL.cells_len h.1.1]
theorem RNamed_dig {x:List UInt8 × Value} (h:RNamed.At w g off x):DigAt w g off x.1:=⟨h.1.1,fun j hj=>by
 have h1:=h.2.2 j (by show j < 33;omega)
 rw [h1]
 show (x.1.map B8 ++ [x.2])[j]? = _
 rw [List.getElem?_append_left (by simp [h.1.1];omega)]⟩
theorem RNamed_img {x:List UInt8 × Value} (h:RNamed.At w g off x):RImg.At w g (off + 32) x.2:=⟨h.1.2,h.2.1,fun j hj=>by
 obtain rfl:j = 0:=by have:j < 1:=hj;omega
 have h1:=h.2.2 32 (by show 32 < 33;omega)
 show w.cell? ⟨g,off + 32,none⟩ = _
 rw [h1]
 show (x.1.map B8 ++ [x.2])[32]? = [x.2][0]?
 rw [List.getElem?_append_right (by simp [h.1.1])]
 simp [h.1.1]⟩
theorem RCont_blob {x:ContV} (h:RCont.At w g off x):RBlob.At w g off x.blob:=⟨h.1.1,h.2.1,fun j hj=>by
 have h1:=h.2.2 j (by show j < 68;have:j < 66:=hj;omega)
 rw [h1]
 show (x.blob.cells ++ [x.bytes,x.leaves])[j]? = _
 rw [List.getElem?_append_left (by rw [BlobL.cells_len h.1.1];exact hj)]
 rfl⟩
theorem RCont_dig {x:ContV} (h:RCont.At w g off x):DigAt w g off x.blob.dig:=(RCont_blob h).dig5
theorem RCont_bytes {x:ContV} (h:RCont.At w g off x):w.cell? ⟨g,off + 66,none⟩ = some x.bytes:=by
 have h1:=h.2.2 66 (by show 66 < 68;omega)
 rw [h1]
 show (x.blob.cells ++ [x.bytes,x.leaves])[66]? = _
 rw [List.getElem?_append_right (by rw [BlobL.cells_len h.1.1];omega)]
 simp [BlobL.cells_len h.1.1]
theorem RCont_leaves {x:ContV} (h:RCont.At w g off x):w.cell? ⟨g,off + 67,none⟩ = some x.leaves:=by
 have h1:=h.2.2 67 (by show 67 < 68;omega)
 rw [h1]
 show (x.blob.cells ++ [x.bytes,x.leaves])[67]? = _
 rw [List.getElem?_append_right (by rw [BlobL.cells_len h.1.1];omega)]
 simp [BlobL.cells_len h.1.1]
end
theorem find_first {α:Type} {p:α→Bool} {l:List α} {j:Nat} {x:α} (hx:l[j]? = some x) (h1:∀ y ∈ l.take j,p y = false) (h2:p x = true):l.find? p = some x:=by
 obtain ⟨hj,e⟩:=List.getElem?_eq_some_iff.1 hx
 have hs:l = l.take j ++ x :: l.drop (j + 1):=by
  rw [← e,← List.drop_eq_getElem_cons hj,List.take_append_drop]
 rw [hs,List.find?_append,List.find?_eq_none.2 (fun y hy=>by rw [h1 y hy];simp)]
 simp [h2]
def LeavePost (w:World) (t mb:Nat) (most each:Int) (E:EntL) (d:List UInt8) (id:Int) (e:Ending) (w':World):Prop:=
 ∃ E',tabOf E' = (leaveT (tabOf E) d id).1∧e = .returned (.int .i64 (leaveT (tabOf E) d id).2)∧TabP w' t most each mb E'∧TabStep mb E E' w w'∧∀ k,ownE mb E' k→ownE mb E k
set_option maxHeartbeats 6400000 in
theorem Leave_any (t mb:Nat) (most each:Int) (E:EntL) (d:List UInt8) (id:Int) (w:World) (hT:TabP w t most each mb E) (hE:EntOk most each E) (hm:1 ≤ most∧most ≤ 1000) (he:1 ≤ each∧each ≤ 64) (h32:d.length = 32)
  (hi:-9223372036854775808 ≤ id∧id ≤ 9223372036854775807) :
  Calls Tryz.prog 95 #[.pointer (some ⟨t,0,none⟩),.agg (d.map B8).toArray,.int .i64 id] w (LeavePost w t mb most each E d id):=by
 have hdig:∀ x ∈ E,x.1.length = 32:=fun x hx=>hE.dig _ (tabOf_mem hx)
 have hrise:Rising kD E:=entL_rise hE.rise
 have hElen:E.length ≤ 1000:=by have:=hE.few;unfold tabOf at this;rw [List.length_map] at this;omega
 obtain ⟨W,hW⟩:∃ W,w.alloc (.cells (d.map B8).toArray 31) = W:=⟨_,rfl⟩
 have ho:DigO W w.heap.size d:=by rw [← hW];exact digO_new w h32
 have hb:Below w.heap.size w W:=by rw [← hW];exact (Below.refl _ w).alloc (Nat.le_refl _) _
 have hTW:=hT.of_new hb
 obtain ⟨m,hlk,hmv,hsh⟩:=hTW.inner hdig h32
 obtain ⟨hps,hpl⟩:=peersT_ok hE he.1 d
 obtain ⟨ps,hps2⟩:∃ ps,peersT d (tabOf E) = ps:=⟨_,rfl⟩
 have hms:(m = .map none∧ps = [])∨∃ b,m = .map (some b)∧(d,(b,ps)) ∈ E:=by
  rcases hsh with ⟨h1,h2⟩ | ⟨x,h1,h2⟩
  ·refine .inl ⟨h2,?_⟩
   rw [← hps2];unfold peersT;rw [← tabOf_get,h1];rfl
  ·obtain ⟨h3,h4⟩:=(getK_some hrise).1 h1
   have hx1:x.1 = d:=natL_inj _ _ (by rw [hdig x h3,h32]) (by unfold kD at h4;omega)
   refine .inr ⟨x.2.1,h2,?_⟩
   have:ps = x.2.2:=by rw [← hps2];unfold peersT;rw [← tabOf_get,h1];rfl
   rw [this,← hx1];exact h3
 rw [hps2] at hmv hps hpl
 have hlt:leaveT (tabOf E) d id = if (getK PeerL.id id ps).isSome then (backT d (delK PeerL.id id ps) (tabOf E),0) else (tabOf E,4):=by unfold leaveT;rw [hps2]
 have hc2:=fun w' (h:Grew W w')=>Grew.cell h hTW.cell2
 have hdg:DigAt W w.heap.size 0 d:=ho.at_
 have hlk2:∀ w',Grew W w'→(Instr.lookup 155 (.map (some mb)) (.agg (d.map B8).toArray) false).run Tryz.prog w' = .ok m w':=hlk
 have HW:=Lib.hid hW
 have HB:=Lib.hid hb
 have HT:=Lib.hid hTW
 have HPS:=Lib.hid hps
 have HO:=Lib.hid ho
 have HDG:=Lib.hid hdig
 have HRS:=Lib.hid hrise
 have H32:=Lib.hid h32
 have HMV:=Lib.hid hmv
 have HMS:=Lib.hid hms
 have HLT:=Lib.hid hlt
 clear hT hE hW hb hTW hps hpl ho hdig hrise hElen h32 hps2 hmv hms hsh hlk hlt
 go_enter Tryz.func95,Tryz.ntmps95
 go_upto_region 1 with (fail)
 rw [HW.out]
 refine wp_region_grew (by kernel_rfl) (by kernel_rfl) ?_
 repeat (first
  | (go_big_quiet_want;(with_reducible apply quiet_load_at (ty:=31) (x:=.tmp _));rfl;rfl;assumption;go_simp;go_big_quiet_on)
  | (go_big_quiet_want;apply quiet_val;(intro w' hw';go_simp;first | done | rfl);go_simp;go_big_quiet_on)
  | (go_big_quiet_skip))
 refine wpQuiet_nil ?_
 intro w3 hw3
 have HT3:=Lib.hid (HT.out.of_new hw3)
 have HO3:=Lib.hid (HO.out.of_new hw3)
 have HB3:=Lib.hid (below_next HB.out hw3)
 have hlk3:=(HMV.out.of_new hw3).look_ok (t:=168) Tryz.underlying168 (zero_peer w3) (KT:=KInt) (x:=id) hi
 rw [hasKey_get,getL_in] at hlk3
 rw [Option.isSome_map] at hlk3
 obtain ⟨o,ho⟩:∃ o,oldP id ps = o:=⟨_,rfl⟩
 rw [show ((getK PeerL.id id ps).map RPeer.V).getD (RPeer.V PeerL.zero) = RPeer.V (oldP id ps) by unfold oldP;cases getK PeerL.id id ps <;> rfl,ho] at hlk3
 obtain ⟨is,his⟩:∃ is,(getK PeerL.id id ps).isSome = is:=⟨_,rfl⟩
 rw [his] at hlk3
 replace hlk3:(Instr.lookup 168 m (.int .i64 id) true).run Tryz.prog w3 = .ok (.tuple #[RPeer.V o,.bool is]) w3:=hlk3
 have HIS:=Lib.hid his
 clear hlk2 hc2 hdg hw3 ho his
 cases is with
 | false=>
  go_wp2_with (first
   | ((with_reducible refine wpList_plain (o:=⟨some 8,Op.alloc _,_,_,_,_⟩) rfl fun K hK=>?_);(refine RPeer.wp_alloc rfl fun w7 ho7 hb7 hs7=>hK _ _ ?_);have HO7:=Lib.hid ho7;have HB7:=Lib.hid hb7;clear ho7 hb7 hs7)
   | ((with_reducible refine wpList_plain (o:=⟨none,Op.store _ (.tmp 8) (.tmp 20),_,_,_,_⟩) rfl fun K hK=>?_);(refine HO7.out.store (.tmp 8) (.tmp 20) rfl rfl rfl (RPeer_ok o) fun w8 ho8 hg8 hs8=>hK _ _ ?_);have HB8:=Lib.hid (HB7.out.grown hg8 (by have:=HB7.out.size;omega) (fun k e=>by cases e;exact Nat.le_refl _));clear ho8 hg8 hs8))
  go_ret
  exact ⟨E,by rw [HLT.out,HIS.out];rfl,by rw [HLT.out,HIS.out];rfl,HT3.out.of_new HB8.out,(TabStep.refl mb E w).new (below_next HB3.out HB8.out),fun k hk=>hk⟩
 | true=>
  rcases HMS.out with ⟨_,h0⟩ | ⟨b,hmb,hmem⟩
  ·exact absurd HIS.out (by rw [h0];simp [getK])
  ·subst hmb
   have HMEM:=Lib.hid hmem
   clear hmem
   go_upto_region 5 with (first
    | ((with_reducible refine wpList_plain (o:=⟨some 8,Op.alloc _,_,_,_,_⟩) rfl fun K hK=>?_);(refine RPeer.wp_alloc rfl fun w7 ho7 hb7 hs7=>hK _ _ ?_);have HO7:=Lib.hid ho7;have HB7:=Lib.hid hb7;clear ho7 hb7 hs7)
    | ((with_reducible refine wpList_plain (o:=⟨none,Op.store _ (.tmp 8) (.tmp 20),_,_,_,_⟩) rfl fun K hK=>?_);(refine HO7.out.store (.tmp 8) (.tmp 20) rfl rfl rfl (RPeer_ok o) fun w8 ho8 hg8 hs8=>hK _ _ ?_);have HB8:=Lib.hid (HB7.out.grown hg8 (by have:=HB7.out.size;omega) (fun k e=>by cases e;exact Nat.le_refl _));clear ho8 hg8 hs8))
   have hT8:=HT3.out.of_new HB8.out
   have hin8:MapL KInt w8 b (ps.map inE):=hT8.ins _ HMEM.out
   obtain ⟨w9,hdel,hm9,hg9,hs9⟩:=hin8.del (t:=168) Tryz.underlying168 (KT:=KInt) (x:=id) hi 0
   replace hdel:(Builtin.delete_ #[168,3] 0 #[.map (some b),.int .i64 id]).run Tryz.prog w8 = .ok (.tuple #[]) w9:=hdel
   rw [delL_in] at hm9
   obtain ⟨r,hr⟩:∃ r,delK PeerL.id id ps = r:=⟨_,rfl⟩
   rw [hr] at hm9
   have hT9:TabP w9 t most each mb (insK kD (d,(b,r)) E):=hT8.set HRS.out HMEM.out hm9 hg9
   have hS9:TabStep mb E (insK kD (d,(b,r)) E) w w9:=((TabStep.refl mb E w).new (below_next HB3.out HB8.out)).grown hg9 (.inr ⟨_,HMEM.out,rfl⟩) (fun k hk=>own_set HRS.out HMEM.out hk)
   have hO9:DigO w9 w.heap.size d:=(HO3.out.of_new HB8.out).of_block (hg9.block _ (HO3.out.of_new HB8.out).lt (fun e=>by
    have h1:b = w.heap.size:=by cases e;rfl
    obtain ⟨es,⟨a,c,h4,_⟩,_⟩:=hin8
    rw [h1,(HO3.out.of_new HB8.out).1] at h4;cases h4))
   have hlen:=hm9.len (t:=168) Tryz.underlying168 3
   rw [List.length_map] at hlen
   have HT9:=Lib.hid hT9
   have HS9:=Lib.hid hS9
   have HO9:=Lib.hid hO9
   have HR:=Lib.hid hr
   clear hT8 hin8 hm9 hg9 hs9 hT9 hS9 hO9 hr
   by_cases h0:r = []
   ·have hz:((r.length:Int) == 0) = true:=by rw [h0];rfl
    go_upto_region 7 with (fail)
    have hdg:DigAt w9 w.heap.size 0 d:=HO9.out.at_
    have hc2:=fun w' (h:Grew w9 w')=>Grew.cell h HT9.out.cell2
    refine wp_region_grew_tail 5 (by kernel_rfl) (by kernel_rfl) ?_
    simp only [List.take_succ_cons,List.take_zero,List.drop_succ_cons,List.drop_zero]
    repeat (first
     | (go_big_quiet_want;(with_reducible apply quiet_load_at (ty:=31) (x:=.tmp _));rfl;rfl;assumption;go_simp;go_big_quiet_on)
     | (go_big_quiet_want;apply quiet_val;(intro w' hw';go_simp;first | done | rfl);go_simp;go_big_quiet_on)
     | (go_big_quiet_skip))
    refine wpQuiet_nil ?_
    intro w10 hw10
    have hT10:=HT9.out.of_new hw10
    have hd10:∀ x ∈ insK kD (d,(b,r)) E,x.1.length = 32:=fun x hx=>by
     rcases (mem_insK HRS.out).1 hx with rfl | ⟨h1,_⟩
     ·exact H32.out
     ·exact HDG.out x h1
    obtain ⟨w11,hdel2,hm11,hg11,hs11⟩:=hT10.map.del (t:=155) Tryz.underlying155 (KT:=KDig) (x:=d) H32.out 0
    replace hdel2:(Builtin.delete_ #[155,31] 0 #[.map (some mb),.agg (d.map B8).toArray]).run Tryz.prog w10 = .ok (.tuple #[]) w11:=hdel2
    have hT11:=hT10.cut hd10 H32.out hm11 hg11
    have hS11:TabStep mb E (delK kD (natL d) (insK kD (d,(b,r)) E)) w w11:=(HS9.out.new hw10).grown hg11 (.inl rfl) (fun k hk=>own_cut hk)
    have hfin:tabOf (delK kD (natL d) (insK kD (d,(b,r)) E)) = (leaveT (tabOf E) d id).1:=by
     rw [HLT.out,HIS.out,HR.out,if_pos rfl]
     unfold backT
     rw [if_pos h0,tabOf_del,tabOf_ins]
     exact delK_ins (f:=kD) (x:=(d,r)) (Rising.map (f:=kD) (fun _=>rfl) HRS.out)
    have HT11:=Lib.hid hT11
    have HS11:=Lib.hid hS11
    have HFN:=Lib.hid hfin
    clear hT10 hd10 hm11 hg11 hs11 hT11 hS11 hw10 hdg hc2 hfin
    go_wp2
    go_ret
    exact ⟨_,HFN.out,by rw [HLT.out,HIS.out];rfl,HT11.out,HS11.out,fun k hk=>own_set HRS.out HMEM.out (own_cut hk)⟩
   ·have hz:((r.length:Int) == 0) = false:=by
     rw [beq_eq_false_iff_ne]
     intro e
     exact h0 (List.length_eq_zero_iff.1 (by omega))
    have hfin:tabOf (insK kD (d,(b,r)) E) = (leaveT (tabOf E) d id).1:=by
     rw [HLT.out,HIS.out,HR.out,if_pos rfl]
     unfold backT
     rw [if_neg h0,tabOf_ins]
    have HFN:=Lib.hid hfin
    clear hfin
    go_wp2
    go_ret
    exact ⟨_,HFN.out,by rw [HLT.out,HIS.out];rfl,HT9.out,HS9.out,fun k hk=>own_set HRS.out HMEM.out hk⟩
end Go.Proofs.YtnohglkilpnjhaaGreatDoor
namespace Go.Proofs.YtnohglkilpnjhaaGreatDoor
open Go.RowKit Go.Shelf
set_option maxRecDepth 100000
def sortD_ren:Go.Shelf.Ren:=⟨fun | 6=>173 | 15=>180 | 14=>186 | 28=>198 | 29=>199 | 20=>200 | 21=>201 | 22=>202 | 23=>203 | 24=>204 | 25=>205 | 26=>206 | 27=>207 | 46=>214 | 47=>210 | 48=>211 | 49=>215 | 50=>216 | 57=>219 | n=>n,fun | 22=>34 | 24=>31 | 25=>192 | 3=>3 | 39=>150 | 0=>0 | 53=>151 | 55=>38 | 4=>4 | 46=>260 | 45=>259 | 50=>138 | 5=>5 | 9=>9 | 66=>272 | 70=>275 | 76=>279 | 77=>280 | n=>n,fun | n=>n⟩
theorem sortD:Go.Proofs.SlLaysF0.n6 Tryz.prog sortD_ren where
 mixed:=by kernel_rfl
 f6 := ⟨ "slices.SortFunc[[]starling/api.Digest,starling/api.Digest]", by decide, Tryz.func173.trans (congrArg some (by kernel_rfl))⟩
 f14 := ⟨ "slices.pdqsortCmpFunc[starling/api.Digest]", by decide, Tryz.func186.trans (congrArg some (by kernel_rfl))⟩
 f15:=Tryz.func180.trans (congrArg some (by kernel_rfl))
 f20 := ⟨ "slices.insertionSortCmpFunc[starling/api.Digest]", by decide, Tryz.func200.trans (congrArg some (by kernel_rfl))⟩
 f21 := ⟨ "slices.heapSortCmpFunc[starling/api.Digest]", by decide, Tryz.func201.trans (congrArg some (by kernel_rfl))⟩
 f22 := ⟨ "slices.breakPatternsCmpFunc[starling/api.Digest]", by decide, Tryz.func202.trans (congrArg some (by kernel_rfl))⟩
 f23 := ⟨ "slices.choosePivotCmpFunc[starling/api.Digest]", by decide, Tryz.func203.trans (congrArg some (by kernel_rfl))⟩
 f24 := ⟨ "slices.reverseRangeCmpFunc[starling/api.Digest]", by decide, Tryz.func204.trans (congrArg some (by kernel_rfl))⟩
 f25 := ⟨ "slices.partialInsertionSortCmpFunc[starling/api.Digest]", by decide, Tryz.func205.trans (congrArg some (by kernel_rfl))⟩
 f26 := ⟨ "slices.partitionEqualCmpFunc[starling/api.Digest]", by decide, Tryz.func206.trans (congrArg some (by kernel_rfl))⟩
 f27 := ⟨ "slices.partitionCmpFunc[starling/api.Digest]", by decide, Tryz.func207.trans (congrArg some (by kernel_rfl))⟩
 f28:=Tryz.func198.trans (congrArg some (by kernel_rfl))
 f29:=Tryz.func199.trans (congrArg some (by kernel_rfl))
 f46 := ⟨ "slices.siftDownCmpFunc[starling/api.Digest]", by decide, Tryz.func214.trans (congrArg some (by kernel_rfl))⟩
 f47:=Tryz.func210.trans (congrArg some (by kernel_rfl))
 f48:=Tryz.func211.trans (congrArg some (by kernel_rfl))
 f49 := ⟨ "slices.medianAdjacentCmpFunc[starling/api.Digest]", by decide, Tryz.func215.trans (congrArg some (by kernel_rfl))⟩
 f50 := ⟨ "slices.medianCmpFunc[starling/api.Digest]", by decide, Tryz.func216.trans (congrArg some (by kernel_rfl))⟩
 f57 := ⟨ "slices.order2CmpFunc[starling/api.Digest]", by decide, Tryz.func219.trans (congrArg some (by kernel_rfl))⟩
 t0:=Tryz.underlying0
 a0:=Tryz.isAgg0
 z0:=Tryz.sizeOf0
 v0:=Tryz.zeroValue0
 t3:=Tryz.underlying3
 a3:=Tryz.isAgg3
 z3:=Tryz.sizeOf3
 v3:=Tryz.zeroValue3
 t4:=Tryz.underlying4
 a4:=Tryz.isAgg4
 z4:=Tryz.sizeOf4
 v4:=Tryz.zeroValue4
 t5:=Tryz.underlying5
 a5:=Tryz.isAgg5
 z5:=Tryz.sizeOf5
 v5:=Tryz.zeroValue5
 t9:=Tryz.underlying9
 a9:=Tryz.isAgg9
 z9:=Tryz.sizeOf9
 v9:=Tryz.zeroValue9
 t22:=Tryz.underlying34
 a22:=Tryz.isAgg34
 z22:=Tryz.sizeOf34
 v22:=Tryz.zeroValue34
 t25:=Tryz.underlying192
 a25:=Tryz.isAgg192
 z25:=Tryz.sizeOf192
 v25:=Tryz.zeroValue192
 t39:=Tryz.underlying150
 a39:=Tryz.isAgg150
 z39:=Tryz.sizeOf150
 v39:=Tryz.zeroValue150
 t45:=Tryz.underlying259
 a45:=Tryz.isAgg259
 z45:=Tryz.sizeOf259
 v45:=Tryz.zeroValue259
 t46:=Tryz.underlying260
 a46:=Tryz.isAgg260
 z46:=Tryz.sizeOf260
 v46:=Tryz.zeroValue260
 t50:=Tryz.underlying138
 a50:=Tryz.isAgg138
 z50:=Tryz.sizeOf138
 v50:=Tryz.zeroValue138
 t53:=Tryz.underlying151
 a53:=Tryz.isAgg151
 z53:=Tryz.sizeOf151
 v53:=Tryz.zeroValue151
 t55:=Tryz.underlying38
 a55:=Tryz.isAgg38
 z55:=Tryz.sizeOf38
 v55:=Tryz.zeroValue38
 t66:=Tryz.underlying272
 a66:=Tryz.isAgg272
 z66:=Tryz.sizeOf272
 v66:=Tryz.zeroValue272
 t70:=Tryz.underlying275
 a70:=Tryz.isAgg275
 z70:=Tryz.sizeOf275
 v70:=Tryz.zeroValue275
 t76:=Tryz.underlying279
 a76:=Tryz.isAgg279
 z76:=Tryz.sizeOf279
 v76:=Tryz.zeroValue279
 t77:=Tryz.underlying280
 a77:=Tryz.isAgg280
 z77:=Tryz.sizeOf280
 v77:=Tryz.zeroValue280
theorem ltOf_dig (x y:RecT.Ok RDig):ltOf (fun x y:RecT.Ok RDig=>cmpL x.1 y.1) x y = decide (natL x.1 < natL y.1):=by
 have hx:x.1.length = 32:=x.2
 have hy:y.1.length = 32:=y.2
 unfold ltOf
 have hc:=cmpL_sign x.1 y.1 (by omega)
 refine decide_eq_decide.2 ?_
 show cmpL x.1 y.1 < 0↔_
 rw [hc]
 by_cases h1:natL x.1 < natL y.1
 ·simp [h1]
 ·by_cases h2:natL y.1 < natL x.1 <;> simp [h1,h2]
theorem swo_dig:Sort.SWO (ltOf fun x y:RecT.Ok RDig=>cmpL x.1 y.1) where
 irrefl x:=by rw [ltOf_dig];simp
 trans x y z h1 h2:=by rw [ltOf_dig] at *;simp at *;omega
 ntrans x y z h1 h2:=by rw [ltOf_dig] at *;simp at *;omega
theorem digCmp_lays (blk off size:Nat) (w:World):CmpLays Tryz.prog 141 #[] RDig.encOk 32 (fun x y:RecT.Ok RDig=>cmpL x.1 y.1) blk off size w:=
 fun _ _ _ _ x y=>CompareG_any x.1 y.1 _ x.2 y.2
theorem SortD_any (v:Value) (l:List (List UInt8)) (w:World) (base:Nat) (ho:RDig.Own w base v l) (hl:l.length ≤ 1000000) :
  Calls Tryz.prog 173 #[v,.func (.func 141) #[] #[]] w fun e w'=>
   e = .returned (.tuple #[])∧∃ l',l'.Perm l∧l'.Pairwise (fun a b=>natL a ≤ natL b)∧RDig.Own w' base v l'∧w.grownBy w' v.ownBlock:=by
 rcases ho.2.2 with ⟨rfl,h0⟩ | ⟨g,cap,cur,rfl,hb,hh,hn,hc,hs,hx⟩
 ·have hl0:l = []:=List.length_eq_zero_iff.1 h0
  subst hl0
  exact (AnyF.slices_SortFunc_none sortD none 0 (.func (.func 141) #[] #[]) w).mono fun e w' ⟨h1,h2⟩=>⟨h1,[],List.Perm.refl _,List.Pairwise.nil,by rw [h2];exact ho,by rw [h2];exact World.grownBy.refl _ _⟩
 ·have eg:∀ args w,(callFunc 141 args).run Tryz.prog w = .ok (.enter 141 args) w:=enters_of Tryz.func141 (by kernel_rfl) rfl
  have hok:∀ x ∈ l,RDig.ok x:=ho.1
  have hu:=RDig.up_len hok
  have hcon:=AnyQ.slices_SortFunc sortD 32 Tryz.isAgg31 Tryz.sizeOf31 RDig.encOk (fun x=>RDig.enc_len x) (fun x v hv=>RDig.one x.2 v hv) (fun x y=>cmpL x.1 y.1) swo_dig 141 #[] g 0 cap (RDig.up l hok).toArray w eg (digCmp_lays g 0 _ w) (ho.holds hok) ((Array.getElem?_eq_some_iff.1 hh).1) (by simp only [List.size_toArray,hu];omega)
  change Calls Tryz.prog 173 _ _ _ at hcon
  simp only [List.size_toArray,hu] at hcon
  refine hcon.mono ?_
  rintro e w' ⟨h1,d',n,os,hp,hst,rfl⟩
  obtain ⟨d,rfl⟩:∃ d:List (RecT.Ok RDig),d' = d.toArray:=⟨d'.toList,by simp⟩
  have hd:d.length = l.length:=by have:=hp.1;simpa [hu] using this
  have hp2:=permIn_list (d:=(RDig.up l hok).toArray) (by simpa [hu] using hp)
  have hp3:=hp2.map Subtype.val
  simp only [RDig.up_val hok] at hp3
  have hs2:=sortedIn_list (d:=d) (by rw [hd];exact hst)
  obtain ⟨k1,k2⟩:=ho.sorted d hd n os
  refine ⟨h1,d.map Subtype.val,hp3,?_,k1,k2⟩
  rw [List.pairwise_map]
  exact hs2.imp fun {a b} h=>by rw [ltOf_dig] at h;simpa using h
end Go.Proofs.YtnohglkilpnjhaaGreatDoor

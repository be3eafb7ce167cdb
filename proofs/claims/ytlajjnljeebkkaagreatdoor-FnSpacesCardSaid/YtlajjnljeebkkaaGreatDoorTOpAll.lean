import Derived.Test.YtlajjnljeebkkaaGreatDoorTOpG
namespace Go.Proofs.TM
open Go
section
variable {P:Program} {S:Sys} {o:Oper} {a:Act} {w:World} {I:Nat→Nat→Prop} {μ:Mu} {e:Env} {H:Heap} {base:Nat} {v:TV} {N:List Blk}
theorem opA_ok (hS:∀ f F,S.rule f=some F→RuleOk P f F) (hO:∀ f sz,S.ovl f=some sz→OvlOk P f sz) {op:Op} (ho:o.op=op) {top:TOp} (ht:TrOp P op top) (hr:HR w I μ (look H)) (he:ER w I μ e a.tmps) (hfree:∀ id,base≤id→id < base+N.length→μ id=none)
  (h:opA S e H base top=some (v,N)):AOk P o a w I μ (look H) base v N:=by
 cases ht with
 | move hx=>exact opA_mv (.inl ho) hx hr he h
 | assign hx=>exact opA_mv (.inr ho) hx hr he h
 | pick hc ha hb=>exact opA_pick ho hc ha hb hr he h
 | alloc hi hz hc=>exact opA_alloc ho hi hz hc hr hfree h
 | allocB hi hz hc=>exact opA_allocB ho hi hz hc hr hfree h
 | sdata hx=>exact opA_sdata ho hx hr he h
 | ustr hp hc hx hy=>cases h
 | box hx=>exact opA_box ho hx hr he hfree h
 | load ht hx=>exact opA_load ho ht hx hr he h
 | nilchk hx=>exact opA_nilchk ho hx hr he h
 | bin ht hx hy=>exact opA_bin ho ht hx hy hr he h
 | un hx=>exact opA_un ho hx hr he h
 | toInt hs hd hx=>exact opA_toInt ho hs hd hx hr he h
 | same hs hd hx=>exact opA_same ho hs hd hx hr he h
 | mkfn ha hb=>exact opA_mkfn ho ha hb hr he h
 | faddr hs hf hi hz hx=>exact opA_faddr ho hs hf hi hz hx hr he h
 | iaddr ht hi hx hix=>exact opA_iaddr ho ht hi hx hix hr he h
 | index ht hx hix=>exact opA_index ho ht hx hix hr he h
 | indexA ht hel hi hs hx hix=>exact opA_indexA ho ht hel hi hs hx hix hr he h
 | buildA hi hu hie hz hc hps=>exact opA_buildA ho hi hu hie hz hc hps hr he h
 | build hi hu hz hc hp hps=>exact opA_build ho hi hu hz hc hp hps hr he h
 | bslice hu hi hz hc hs hn hps=>exact opA_bslice ho hu hi hz hc hs hn hps hr he hfree h
 | mkslice hu hi hz hc hs hx hy=>exact opA_mkslice ho hu hi hz hc hs hx hy hr he hfree h
 | toBytes hs hd hel hx=>exact opA_toBytes ho hs hd hel hx hr he hfree h
 | toStr hs hd hel hx=>exact opA_toStr ho hs hd hel hx hr he h
 | append ht hu hdu hi hz hzs hpos hs hx=>exact opA_append ho ht hu hdu hi hz hzs hpos hs hx hr he hfree h
 | store hi hx hy=>cases h
 | ext hx=>exact opA_ext ho hx hr he h
 | sliceS ht hx hlo hhi=>exact opA_sliceS ho ht hx hlo hhi hr he h
 | slice ht hin hx hlo hhi hmx=>exact opA_slice ho ht hin hx hlo hhi hmx hr he h
 | lenS ht hx=>exact opA_lenS ho ht hx hr he h
 | len ht hx=>exact opA_len ho ht hx hr he h
 | min hx hy=>exact opA_mm false ho hx hy hr he h
 | max hx hy=>exact opA_mm true ho hx hy hr he h
 | call hx=>exact opA_call hS ho hx hr he hfree h
 | callv hf hx=>exact opA_callv hS ho hf hx hr he hfree h
 | callM hx=>cases h
 | copy ht hi hx hy=>cases h
 | cap ht hx=>exact opA_cap ho ht hx hr he h
 | appz ht hu hi hz hc hs hpos hx hy=>exact opA_appz ho ht hu hi hz hc hs hpos hx hy hr he hfree h
 | ovl hx hy=>exact opA_ovl hO ho hx hy hr he h
 | callvM hf hx=>cases h
 | recut ht hin hx hlo hhi=>cases h
end
end Go.Proofs.TM

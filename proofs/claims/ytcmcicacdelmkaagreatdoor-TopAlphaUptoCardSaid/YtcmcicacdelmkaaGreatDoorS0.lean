/- Short names. Conditions: none. -/
import Derived.Lib.Hide
import Derived.Below
import Derived.Laws.Rows
import Derived.Tactics
import Derived.Laws.AppendOwn
import Derived.Lib.SmallJoins
import Derived.Deep.Onto
import Derived.Deep.AppendLies
namespace Go.Proofs.YtcmcicacdelmkaaGreatDoor
open Go.RowKit
abbrev W:=@Hid
theorem W.o{p:Prop}(h:W p):p:=Hid.out h
theorem N{p:Prop}(h:p):W p:=Lib.hid h
abbrev dc:=@IntKind.wrap_i64
abbrev bR:=@Below.heap_setCell
abbrev bm:=@heap_alloc_new
abbrev bb:=@bodyPost_ret
abbrev bX:=@results_cell_row
abbrev cz:=@World.ownsRow.alloc
abbrev cM:=@Joins.ownsRow_form
abbrev cL:=@World.ownsRow.mono
abbrev db:=@Joins.ownsRow_forms
abbrev bP:=@Below.refl
abbrev dD:=@World.ownsRow.lt
abbrev dX:=@World.ownsRow_nil
abbrev e3:=@World.news_of_block
abbrev eI:=@wpList_append_own
theorem ay(a b:Int)(h:a≠b):(a==b)=false:=by simp[h]
theorem b3(a b:Int)(h:a=b):(a==b)=true:=by simp[h]
theorem bC(x:Int)(h:-9223372036854775809<x∧x<9223372036854775807):IntKind.i64.wrap (x+1)=x+1:=by rw[IntKind.wrap_i64];omega
end Go.Proofs.YtcmcicacdelmkaaGreatDoor
